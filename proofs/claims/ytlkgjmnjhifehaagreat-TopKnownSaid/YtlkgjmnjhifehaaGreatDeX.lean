
import Derived.Test.YtlkgjmnjhifehaaGreatGeT
import Derived.Test.YtlkgjmnjhifehaaGreatApp
import Derived.Test.YtlkgjmnjhifehaaGreatProg
import Derived.Maps.OwnIn
import Derived.Test.YtlkgjmnjhifehaaGreatRuI
import Derived.Test.YtlkgjmnjhifehaaGreatPoa
import Derived.Test.YtlkgjmnjhifehaaGreatRuZ
set_option linter.unusedSimpArgs false
set_option linter.unusedVariables false
set_option maxHeartbeats 4000000
set_option maxRecDepth 100000
namespace Go.Proofs.YtlkgjmnjhifehaaGreat
open Go.RowKit Go.Sort
attribute [local go_sem] dC steadyUpon
attribute [local go_sem ↓] bQ bJ bg aZ aY aX aW
attribute [local go_sem] bH aN aK size_grow tape_grow cell?_grow' aF aC grow_grow bV bn dZ bZ bW bM aO cO bu bY bK
attribute [local irreducible] wpSteady
def qR (n:Int):Bool:=decide (1<=n/\n<=100000)
theorem Gu (n:Int)(r:Bool)(w:World)(h:qR n=r):Calls Tryz.prog 57 #[.int .i64 n] w (aB w (.bool r)):=by
 subst h
 go_enter Tryz.func57,Tryz.ntmps57
 go_wp2
 all_goals go_ret
 all_goals refine aB.mk' (dS ?_) gw
 all_goals (rw[Bool.eq_iff_iff];simp[qR];try omega)
def jc (fs gs:List FV)(n:Int):Bool:=bG fs&&(bG gs&&qR n)
theorem Qv (fs gs:List FV)(A A':Option Addr)(c c':Nat)(n:Int)(r:Bool)(w:World)(hr:mM w w.heap.size A fs)(hr':mM w w.heap.size A' gs)(hc:fs.length<=100000000000000)(hc':gs.length<=100000000000000)(h:jc fs gs n=r) :
  Calls Tryz.prog 52 #[.slice A fs.length c,.slice A' gs.length c',.int .i64 n] w (aB w (.bool r)):=by
 have hm:=aQ
 obtain⟨u,hu⟩:∃u,bG fs=u:=⟨_,rfl⟩
 obtain⟨v,hv⟩:∃u,bG gs=u:=⟨_,rfl⟩
 obtain⟨l,hl⟩:∃u,qR n=u:=⟨_,rfl⟩
 have k1:=hide (fun W (hg:Grew w W)=>je fs A c u W (hr.up hg) hc hu)
 have k2:=hide (fun W (hg:Grew w W)=>je gs A' c' v W (hr'.up hg) hc' hv)
 have k3:=hide (fun W=>Gu n l W hl)
 unfold jc at h
 rw[hu,hv,hl] at h
 clear hu hv hl hr hr'
 have hcase:(u=false/\r=false)\/(u=true/\v=false/\r=false)\/(u=true/\v=true/\l=r):=by
  rw[<-h]
  cases u<;>cases v<;>simp
 clear h
 rcases hcase with⟨rfl,rfl⟩|⟨rfl,rfl,rfl⟩|⟨rfl,rfl,rfl⟩
 all_goals
  go_enter Tryz.func52,Tryz.ntmps52
  go_wp2_with (first|((go_at_call 37;first|with_reducible refine (k1.out _ gw).mono ?_|with_reducible refine (k2.out _ gw).mono ?_);rintro e w' ⟨rfl,⟨_,_⟩,rfl⟩;dsimp only)|(go_at_call 57;with_reducible refine aT (k3.out _) fun _ _=>?_;dsimp only))
  go_ret
  exact aB.mk' rfl gw
def countB (f:FV)(n:Int):Bool:=decide (f.kind=4)||decide (f.dep<n)
theorem LM (A:Option Addr)(m c:Nat)(n:Int)(f:FV)(r:Bool)(w:World)(h:countB f n=r) :
  Calls Tryz.prog 71 #[.agg #[.slice A m c,.int .i64 n],f.val] w (aB w (.bool r)):=by
 unfold countB at h
 obtain⟨id,kind,x,y,dn,aA,ac,area,dep,sym,sA,sc,secs⟩:=f
 unfold FV.val
 dsimp only at *
 generalize area.length=na at *
 generalize secs.length=ns at *
 by_cases h4:kind=4
 ·subst h4
  obtain rfl:r=true:=by rw[<-h];rfl
  clear h
  go_enter Tryz.func71,Tryz.ntmps71
  go_wp2_with fail
  go_ret
  exact aB.mk' rfl gw
 ·rw[decide_eq_false h4,Bool.false_or] at h
  subst h
  have h5:(kind==4)=false:=by simpa using h4
  go_enter Tryz.func71,Tryz.ntmps71
  go_wp2_with fail
  go_ret
  first|exact aB.mk' rfl gw|exact aB.mk' (by simp[h4]) gw
def lJ (ps:List Pt)(k:Nat):Int:=if k=0 then 0 else (ai ps (k-1)).1
def tK (ps:List Pt)(k:Nat):Bool:=decide (lJ ps k<(ai ps k).1/\(ai ps k).1<=100000/\1<=(ai ps k).2/\(ai ps k).2<=100000)
def lI (ps:List Pt)(k:Nat):Bool:=(List.range k).all (tK ps)
def iO (ps:List Pt):Bool:=lI ps ps.length
theorem FC {ps:List Pt}{k:Nat}(h:lI ps k=true):lI ps (k+1)=tK ps k:=by
 unfold lI at h ⊢
 rw[List.range_succ,List.all_append,h]
 simp
theorem Kq {ps:List Pt}{k n:Nat}(hk:k<n)(h:tK ps k=false):lI ps n=false:=by
 unfold lI
 rw[List.all_eq_false]
 exact⟨k,List.mem_range.2 hk,by rw[h];simp⟩
theorem Q9 (ps:List Pt)(A:Option Addr)(c:Nat)(r:Bool)(w:World)(hr:Rd w w.heap.size 2 A (ps.map dU))(hc:ps.length<=100000000000000)(h:iO ps=r) :
  Calls Tryz.prog 53 #[.slice A ps.length c] w (aB w (.bool r)):=by
 have hm:=aQ
 have HH:=hide h
 have HR:=hide hr
 clear h hr
 go_enter Tryz.func53,Tryz.ntmps53
 go_wp2_with fail
 go_loopw [3,8] (fun l i wr=>∃k:Nat,k<=ps.length/\i=.int .i64 k/\l=.int .i64 (lJ ps k)/\Grew w wr/\uN (lI ps k=true)) (fun _ i _=>ps.length-(intOf i).toNat)
 case atStart=>exact⟨0,by omega,rfl,rfl,gw,rfl⟩
 case round =>
  obtain⟨k,hk,rfl,rfl,hg,hall⟩:=hrel
  have HG:=hide hg
  have HA:=hide hall.stop
  clear hg hall
  by_cases hlt:k<ps.length
  ·obtain⟨b,off,hA,hb,c0,c1⟩:=rD (HR.out.up HG.out) (fB hlt)
   have hix:=aJ (cap:=c) Tryz.underlying34 Tryz.sizeOf118 hA.out hlt
   have hst:=FC HA.out
   unfold tK at hst
   have KX:lJ ps (k+1)=(ai ps k).1:=by unfold lJ;rw[if_neg (by omega),Nat.add_sub_cancel]
   obtain⟨l,hl⟩:∃l,lJ ps k=l:=⟨_,rfl⟩
   have hno:¬ (l<(ai ps k).1/\(ai ps k).1<=100000/\1<=(ai ps k).2/\(ai ps k).2<=100000)->r=false:=fun e=>by
    rw[<-HH.out]
    exact Kq hlt (by unfold tK;rw[hl];exact decide_eq_false e)
   rw[hl] at hst ⊢
   clear hl hA
   generalize ai ps k=p at *
   obtain⟨p1,p2⟩:=p
   dsimp only at *
   have HST:=hide hst
   have XJ:=hide KX
   clear hst KX
   have hcase:(l<p1/\p1<=100000/\1<=p2/\p2<=100000)\/p1<=l\/(¬ p1<=l/\100000<p1)\/(¬ p1<=l/\¬ 100000<p1/\p2<1)\/(¬ p1<=l/\¬ 100000<p1/\¬ p2<1/\100000<p2):=by omega
   rcases hcase with⟨h1,h2,h3,h4⟩|h1|⟨h1,h2⟩|⟨h1,h2,h3⟩|⟨h1,h2,h3,h4⟩
   ·have n1:¬ p1<=l:=by omega
    have n2:¬ 100000<p1:=by omega
    have n3:¬ p2<1:=by omega
    have n4:¬ 100000<p2:=by omega
    clear hno
    go_wp2_with fail
    go_roundw
    case rel=>exact⟨k+1,by omega,by go_num,by rw[XJ.out],HG.out.trans gw,show lI ps (k+1)=true from (by rw[HST.out,decide_eq_true (show l<p1/\p1<=100000/\1<=p2/\p2<=100000 from ⟨h1,h2,h3,h4⟩)])⟩
    case measure=>simp[intOf];omega
   all_goals
    have G6:=hide (hno (by omega))
    clear hno
    go_wp2_with fail
    go_ret
    exact aB.mk' (by rw[G6.out];rfl) (HG.out.trans gw)
  ·obtain rfl:k=ps.length:=by omega
   obtain rfl:r=true:=by rw[<-HH.out];exact HA.out
   go_wp2_with fail
   go_ret
   exact aB.mk' rfl HG.out
theorem aaE (f g:FV)(r:Bool)(w:World)(hf:f.rd w w.heap.size)(hg:g.rd w w.heap.size)(h:iT f g=r) :
  Calls Tryz.prog 55 #[f.val,g.val] w (aB w (.bool r)):=by
 have hm:=aQ
 unfold iT at h
 obtain⟨⟨n,e⟩,hn⟩:∃u,su f g=u:=⟨_,rfl⟩
 have k1:=hide (fun W (hgr:Grew w W)=>Xx f g (n,e) W (hf.up hgr) (hg.up hgr) hn)
 rw[hn] at h
 dsimp only at h k1
 clear hn hf hg
 have hcase:e=0\/(e==0)=false:=by by_cases h:e=0<;>simp[h]
 rcases hcase with rfl|h1
 ·obtain rfl:n=r:=by rw[<-h];simp
  clear h
  go_enter Tryz.func55,Tryz.ntmps55
  go_wp2_with (go_at_call 86;with_reducible refine aT (k1.out _ gw) fun _ _=>?_;dsimp only)
  go_ret
  exact aB.mk' rfl gw
 ·rw[h1] at h
  subst h
  go_enter Tryz.func55,Tryz.ntmps55
  go_wp2_with (go_at_call 86;with_reducible refine aT (k1.out _ gw) fun _ _=>?_;dsimp only)
  go_ret
  exact aB.mk' (by rfl) gw
def oJ (f:FV)(gs:List FV):Int:=match gs.find? (iT f) with|some g=>g.id|none=>0
def ahe (f:FV)(gs:List FV)(e:Ending):Prop:=(e=.returned (.int .i64 (-1))/\∀g,g∈gs->iT f g=false)\/(∃k:Nat,k<gs.length/\e=.returned (.int .i64 k)/\iT f (aP gs k)=true/\∀j,j<k->iT f (aP gs j)=false)
theorem VU (f:FV)(gs:List FV)(A:Option Addr)(c:Nat)(w:World)(hf:f.rd w w.heap.size)(hr:mM w w.heap.size A gs)(hc:gs.length<=100000000000000) :
  Calls Tryz.prog 97 #[.slice A gs.length c,.func (.func 55) #[f.val] #[]] w fun e w'=>ahe f gs e/\Grew w w':=by
 have hm:=aQ
 have HR:=hide hr
 have HF:=hide hf
 clear hr hf
 go_enter Tryz.func97,Tryz.ntmps97
 go_wp2_with fail
 go_loopw [8] (fun i wr=>∃k:Nat,k<=gs.length/\i=.int .i64 k/\Grew w wr/\uN (∀j,j<k->iT f (aP gs j)=false)) (fun i _=>gs.length-(intOf i).toNat)
 case atStart=>exact⟨0,by omega,rfl,gw,fun j hj=>by omega⟩
 case round =>
  obtain⟨k,hk,rfl,hg,hall⟩:=hrel
  have HG:=hide hg
  have HA:=hide hall.stop
  clear hg hall
  by_cases hlt:k<gs.length
  ·obtain⟨b,off,hA,hb,fc⟩:=vW (HR.out.up HG.out) hlt
   have hgr:=HR.out.each _ (dL hlt)
   have hix:=aJ (cap:=c) Tryz.underlying23 Tryz.sizeOf65 hA.out hlt
   obtain⟨o,ho⟩:∃o,iT f (aP gs k)=o:=⟨_,rfl⟩
   have k1:=hide (fun W (hg:Grew w W)=>aaE f (aP gs k) o W (HF.out.up hg) (hgr.up hg) ho)
   have HO:=hide ho
   obtain⟨c0,c1,c2,c3,c4,c5,c6,c7,c8⟩:=fc
   have HID:Hid (∃g,aP gs k=g):=hide ⟨_,rfl⟩
   clear ho hA hgr
   cases o
   ·go_wp2_with (go_at_call 55;with_reducible refine aT (k1.out _ (HG.out.trans gw)) fun _ _=>?_;dsimp only)
    go_roundw
    case rel=>exact⟨k+1,by omega,by go_num,HG.out.trans gw,show ∀j,j<k+1->iT f (aP gs j)=false from (fun j hj=>by
     by_cases e:j=k
     ·rw[e];exact HO.out
     ·exact HA.out j (by omega))⟩
    case measure=>simp[intOf];omega
   ·go_wp2_with (go_at_call 55;with_reducible refine aT (k1.out _ (HG.out.trans gw)) fun _ _=>?_;dsimp only)
    go_ret
    exact⟨.inr ⟨k,by omega,rfl,HO.out,HA.out⟩,HG.out.trans gw⟩
  ·obtain rfl:k=gs.length:=by omega
   go_wp2_with fail
   go_ret
   refine⟨.inl ⟨rfl,fun g hg=>?_⟩,HG.out⟩
   obtain⟨j,hj,e⟩:=List.getElem_of_mem hg
   have:=HA.out j hj
   have a:=dA hj
   rw[List.getElem?_eq_getElem hj,e] at a
   injection a with a
   rw[a]
   exact this
theorem Tm {f:FV}{gs:List FV}(h:∀g,g∈gs->iT f g=false):oJ f gs=0:=by
 unfold oJ
 rw[List.find?_eq_none.2 (fun g hg=>by rw[h g hg];simp)]
theorem P8 {f:FV}:∀ {gs:List FV} {k:Nat},k<gs.length->iT f (aP gs k)=true->(∀j,j<k->iT f (aP gs j)=false)->gs.find? (iT f)=some (aP gs k)
 | [],k,h,_,_=>by simp at h
 | g::gs,0,_,h1,_=>by
  have e:aP (g::gs) 0=g:=rfl
  rw[e] at h1 ⊢
  rw[List.find?_cons,h1]
 | g::gs,k+1,h,h1,h2=>by
  have e:∀j,aP (g::gs) (j+1)=aP gs j:=fun j=>by unfold aP;rw[List.getD_cons_succ]
  have h0:iT f g=false:=h2 0 (by omega)
  rw[e] at h1 ⊢
  rw[List.find?_cons,h0]
  exact P8 (by simpa using h) h1 (fun j hj=>by rw[<-e];exact h2 (j+1) (by omega))
theorem agy (f:FV)(gs:List FV)(A:Option Addr)(c:Nat)(r:Int)(w:World)(hf:f.rd w w.heap.size)(hr:mM w w.heap.size A gs)(hc:gs.length<=100000000000000)(h:oJ f gs=r) :
  Calls Tryz.prog 72 #[f.val,.slice A gs.length c] w (aB w (.int .i64 r)):=by
 have hm:=aQ
 have k1:=hide (fun W (hg:Grew w W)=>VU f gs A c W (hf.up hg) (hr.up hg) hc)
 have HR:=hide hr
 have HH:=hide h
 clear hf hr h
 go_enter Tryz.func72,Tryz.ntmps72
 go_wp2_with fail
 refine (k1.out _ gw).mono ?_
 rintro e w' ⟨h,⟨⟨n1,os1⟩,rfl⟩⟩
 rcases h with⟨rfl,hn⟩|⟨k,hk,rfl,h1,h2⟩
 ·obtain rfl:r=0:=by rw[<-HH.out];exact Tm hn
  clear hn
  dsimp only
  go_wp2_with fail
  go_ret
  exact aB.mk' rfl gw
 ·have hid:(aP gs k).id=r:=by
   rw[<-HH.out]
   unfold oJ
   rw[P8 hk h1 h2]
  obtain⟨b,off,hA,hb,fc⟩:=vW HR.out hk
  have hix:=aJ (cap:=c) Tryz.underlying23 Tryz.sizeOf65 hA.out hk
  have c0:=fc.c0
  rw[hid] at c0
  have hk0:0<=(k:Int):=by omega
  clear h1 h2 hid fc hA
  dsimp only
  go_wp2_with fail
  go_ret
  exact aB.mk' rfl gw
def jI (fs:List FV)(n:Int)(p:Pt):Int×Int:=if (bG fs&&(qR n&&p.ok))=true then (min (o6 fs p fs.length) n,0) else (0,1)
theorem Ff (fs:List FV)(A:Option Addr)(c:Nat)(n:Int)(p:Pt)(r:Int×Int)(w:World)(hr:mM w w.heap.size A fs)(hc:fs.length<=100000000000000)(h:jI fs n p=r) :
  Calls Tryz.prog 22 #[.slice A fs.length c,.int .i64 n,pt p.1 p.2] w (aB w (.tuple #[.int .i64 r.1,.int .i64 r.2])):=by
 have hm:=aQ
 obtain⟨u,hu⟩:∃u,bG fs=u:=⟨_,rfl⟩
 obtain⟨l,hl⟩:∃u,qR n=u:=⟨_,rfl⟩
 obtain⟨v,hv⟩:∃u,p.ok=u:=⟨_,rfl⟩
 have k1:=hide (fun W (hg:Grew w W)=>je fs A c u W (hr.up hg) hc hu)
 have k2:=hide (fun W=>dP p.1 p.2 v W hv)
 have k3:=hide (fun W=>Gu n l W hl)
 have k4:=hide (fun W (hg:Grew w W)=>ZU fs A c p _ W (hr.up hg) hc rfl)
 unfold Hu at k4
 unfold jI at h
 rw[hu,hv] at k4
 rw[hu,hv,hl] at h
 clear hu hv hl hr
 generalize o6 fs p fs.length=m at *
 obtain⟨p1,p2⟩:=p
 dsimp only at *
 have hcase:u=false\/(u=true/\l=false)\/(u=true/\l=true/\v=false)\/(u=true/\l=true/\v=true):=by cases u<;>cases l<;>cases v<;>simp
 rcases hcase with rfl|⟨rfl,rfl⟩|⟨rfl,rfl,rfl⟩|⟨rfl,rfl,rfl⟩
 ·rw[if_neg (by simp)] at h
  subst h
  go_enter Tryz.func22,Tryz.ntmps22
  go_wp2_with (first|(go_at_call 37;with_reducible refine aT (k1.out _ gw) fun _ _=>?_;dsimp only)|(go_at_call 49;with_reducible refine aT (k2.out _) fun _ _=>?_;dsimp only)|(go_at_call 57;with_reducible refine aT (k3.out _) fun _ _=>?_;dsimp only))
  go_ret2
  exact aB.mk' rfl gw
 ·rw[if_neg (by simp)] at h
  subst h
  go_enter Tryz.func22,Tryz.ntmps22
  go_wp2_with (first|(go_at_call 37;with_reducible refine aT (k1.out _ gw) fun _ _=>?_;dsimp only)|(go_at_call 49;with_reducible refine aT (k2.out _) fun _ _=>?_;dsimp only)|(go_at_call 57;with_reducible refine aT (k3.out _) fun _ _=>?_;dsimp only))
  go_ret2
  exact aB.mk' rfl gw
 ·rw[if_neg (by simp)] at h
  subst h
  go_enter Tryz.func22,Tryz.ntmps22
  go_wp2_with (first|(go_at_call 37;with_reducible refine aT (k1.out _ gw) fun _ _=>?_;dsimp only)|(go_at_call 49;with_reducible refine aT (k2.out _) fun _ _=>?_;dsimp only)|(go_at_call 57;with_reducible refine aT (k3.out _) fun _ _=>?_;dsimp only))
  go_ret2
  exact aB.mk' rfl gw
 ·rw[if_pos (by rfl)] at h
  subst h
  rw[if_pos (by rfl)] at k4
  dsimp only at k4
  go_enter Tryz.func22,Tryz.ntmps22
  go_wp2_with (first|(go_at_call 37;with_reducible refine aT (k1.out _ gw) fun _ _=>?_;dsimp only)|(go_at_call 49;with_reducible refine aT (k2.out _) fun _ _=>?_;dsimp only)|(go_at_call 57;with_reducible refine aT (k3.out _) fun _ _=>?_;dsimp only)|(go_at_call 15;with_reducible refine aT (k4.out _ gw) fun _ _=>?_;dsimp only))
  all_goals go_ret2
  all_goals exact aB.mk' (yH (lU (by omega)) rfl) gw
end Go.Proofs.YtlkgjmnjhifehaaGreat
set_option maxHeartbeats 4000000
set_option maxRecDepth 100000
namespace Go.Proofs.YtlkgjmnjhifehaaGreat
open Go.RowKit Go.Sort
open Go.Maps (Keyed)
def BM (v:Value):Option (DataW Value×List MemPlace):=some (.held v,[])
theorem IV:Keyed Tryz.prog 3:=Maps.int_keyed Tryz.underlying3
def fP (w:World)(b n:Nat)(m:Int->Option Value):Prop:=∃D,w.ownsMap Tryz.prog 3 BM b n D/\Maps.IsMap D/\∀x,(Lit.int .i64 x).wf=true->Maps.has D (.int .i64 x)=(m x).isSome/\∀z,D.atKey (.int .i64 x) z=match m x with|some v=>.held v|none=>z
theorem fP.made (w:World):fP (w.alloc (.map #[] 0)) w.heap.size 0 (fun _=>none) :=
 ⟨_,World.ownsMap_made w Tryz.prog 3 BM,Maps.isMap_empty,fun _ _=>⟨rfl,fun _=>rfl⟩⟩
theorem fP.lt {w:World}{b n:Nat}{m:Int->Option Value}(h:fP w b n m):b<w.heap.size:=let ⟨_,h,_⟩:=h;h.lt
theorem fP.kept {w w':World}{b n:Nat}{m:Int->Option Value}{row:Option Nat}(h:fP w b n m)(hg:w.grownBy w' row)(hne:some b≠row):fP w' b n m :=
 let ⟨D,h1,h2⟩:=h;⟨D,h1.kept hg hne,h2⟩
theorem fP.block {w w':World}{b n:Nat}{m:Int->Option Value}(h:fP w b n m)(hb:w'.heap[b]?=w.heap[b]?):fP w' b n m:=by
 obtain⟨D,⟨es,clock,h0,h1⟩,h2⟩:=h
 exact⟨D,⟨es,clock,hb.trans h0,h1⟩,h2⟩
theorem fP.up {w w':World}{b n:Nat}{m:Int->Option Value}(h:fP w b n m)(hg:Grew w w'):fP w' b n m:=h.block (hg.below.block b h.lt)
theorem YT (x:Int)(h:(Lit.int .i64 x).wf=true):keyOf Tryz.prog 3 (.int .i64 x)=some (.int .i64 x):=Maps.keyOf_int_mk Tryz.underlying3 h
theorem KZ {D:DataW Value}{x:Int}{m:Int->Option Value}{v z:Value}{ps:List MemPlace}(h:∀z,D.atKey (.int .i64 x) z=match m x with|some v=>.held v|none=>z)(hv:BM v=some (D.atKey (.int .i64 x) (.held z),ps)):v=(m x).getD z:=by
 rw[h] at hv
 unfold BM at hv
 cases hm:m x with
 | none=>rw[hm] at hv;injection hv with hv;injection hv with hv _;injection hv
 | some u=>rw[hm] at hv;injection hv with hv;injection hv with hv _;injection hv
theorem fP.look1 {w:World}{b n:Nat}{m:Int->Option Value}(h:fP w b n m){t e:TypeId}(ht:Tryz.prog.underlying t=some (.map 3 e)){z:Value}(hz:(zeroValue e).run Tryz.prog w=.ok z w){x:Int}(hx:(Lit.int .i64 x).wf=true) :
  (Instr.lookup t (.map (some b)) (.int .i64 x) false).run Tryz.prog w=.ok ((m x).getD z) w:=by
 obtain⟨D,h1,_,h3⟩:=h
 obtain⟨v,ps,hrun,hv⟩:=h1.lookup IV ht hz (zd:=.held z) (zp:=[]) rfl (YT x hx)
 rw[hrun,KZ (h3 x hx).2 hv]
def JI (m:Int->Option Value)(k:Int)(v:Value):Int->Option Value:=fun x=>if x=k then some v else m x
theorem fP.Ve {w:World}{b n:Nat}{m:Int->Option Value}{D:DataW Value}{k:Int}{v:Value}(hk:(Lit.int .i64 k).wf=true)(h1:w.ownsMap Tryz.prog 3 BM b n (D.put (.int .i64 k) (.held v)))(h2:Maps.IsMap D)(h3:∀x,(Lit.int .i64 x).wf=true->Maps.has D (.int .i64 x)=(m x).isSome/\∀z,D.atKey (.int .i64 x) z=match m x with|some v=>.held v|none=>z):fP w b n (JI m k v):=by
 have hkl:WideAt.IsKeyLit (.int .i64 k):=by simp[WideAt.IsKeyLit]
 refine⟨_,h1,h2.put _ _,fun x hx=>?_⟩
 unfold JI
 by_cases e:x=k
 ·subst e
  rw[if_pos rfl]
  exact⟨Maps.has_put_same h2 hkl _,fun z=>Maps.atKey_put_same h2 hkl _ z⟩
 ·rw[if_neg e]
  have hne:Lit.int .i64 x≠.int .i64 k:=fun h=>e (by injection h)
  exact⟨(Maps.has_put_other hne _).trans (h3 x hx).1,fun z=>(Maps.atKey_put_other hne _ z).trans ((h3 x hx).2 z)⟩
theorem wf64 {x:Int}(h:-9223372036854775808<=x/\x<=9223372036854775807):(Lit.int .i64 x).wf=true:=WalkArith.wf_i64 (by omega)
section
variable {w:World} {ops:Array Oper} {rest:List Oper} {o:Oper} {a:Act} {Q:Exit->Act->World->Prop} {b n:Nat} {mp:Int->Option Value}
theorem G9 (hg:o.guard=none)(m x v:Operand)(t:TypeId)(hop:o.op=Op.mapUpdate t m x v)(e:TypeId)(ht:Tryz.prog.underlying t=some (.map 3 e))
  (hm:a.eval m=.map (some b)) (h:fP w b n mp) (hn:n<maxLen) (k:Int) (u:Value) (hx:a.eval x=.int .i64 k) (hv:a.eval v=u) (hk:(Lit.int .i64 k).wf=true)
  (hK:∀w',fP w' b (n+1) (JI mp k u)->w.grownBy w' (some b)->wpList Tryz.prog ops Q rest (a.put o.dst undef) w'):wpList Tryz.prog ops Q (o::rest) a w:=by
 obtain⟨D,h1,h2,h3⟩:=h
 exact wpList_mapUpdate_own w hg m x v t hop 3 e IV ht BM b n D hm h1 hn _ _ _ hx hv (YT k hk) (.held u) [] rfl fun w' h4 h5=>hK w' (fP.Ve hk h4 h2 h3) h5
variable {F:Fence} {nF:Nat}
theorem iJ (hg:o.guard=none)(m x:Operand)(t:TypeId)(hop:o.op=Op.lookup t m x true)(e:TypeId)(ht:Tryz.prog.underlying t=some (.map 3 e)){z:Value}(hz:(zeroValue e).run Tryz.prog w=.ok z w)
  (hm:a.eval m=.map (some b)) (h:fP w b n mp) (k:Int) (hx:a.eval x=.int .i64 k) (hk:(Lit.int .i64 k).wf=true) (hK:wpListIn F nF Tryz.prog ops Q rest (a.put o.dst (.tuple #[(mp k).getD z,.bool (mp k).isSome])) w):wpListIn F nF Tryz.prog ops Q (o::rest) a w:=by
 obtain⟨D,h1,_,h3⟩:=h
 refine wpListIn_lookup_own_ok w hg m x t hop 3 e IV ht BM hz (.held z) [] rfl b n D hm h1 _ _ hx (YT k hk) fun v ps hv=>?_
 rw[(h3 k hk).1,KZ (h3 k hk).2 hv]
 exact hK
theorem Dw (hg:o.guard=none)(m x v:Operand)(t:TypeId)(hop:o.op=Op.mapUpdate t m x v)(e:TypeId)(ht:Tryz.prog.underlying t=some (.map 3 e))
  (hm:a.eval m=.map (some b)) (h:fP w b n mp) (hn:n<maxLen) (k:Int) (u:Value) (hx:a.eval x=.int .i64 k) (hv:a.eval v=u) (hk:(Lit.int .i64 k).wf=true)
  (hK:∀w',fP w' b (n+1) (JI mp k u)->w.grownBy w' (some b)->wpListIn F nF Tryz.prog ops Q rest (a.put o.dst undef) w'):wpListIn F nF Tryz.prog ops Q (o::rest) a w:=by
 obtain⟨D,h1,h2,h3⟩:=h
 exact wpListIn_mapUpdate_own w hg m x v t hop 3 e IV ht BM b n D hm h1 hn _ _ _ hx hv (YT k hk) (.held u) [] rfl fun w' h4 h5=>hK w' (fP.Ve hk h4 h2 h3) h5
end
end Go.Proofs.YtlkgjmnjhifehaaGreat
namespace Go.Proofs.YtlkgjmnjhifehaaGreat
open Go.RowKit Go.Sort Go.Lib
attribute [local go_sem] dC steadyUpon
attribute [local go_sem ↓] bQ bJ bg aZ aY aX aW
attribute [local go_sem] bH aN aK size_grow tape_grow cell?_grow' aF aC grow_grow bV bn dZ bZ bW bM aO cO bu bY bK
attribute [local irreducible] wpSteady
abbrev CI (fs:List FV)(lim:Int):Type:={ i:Fin fs.length // countB (aP fs i.1) lim=true }
def gI {fs:List FV}{lim:Int}(x:CI fs lim):Nat:=x.1.1
def Oc (fs:List FV)(lim:Int)(x:CI fs lim):Array Value:=#[(aP fs (gI x)).val]
def aS (fs:List FV)(lim:Int)(k:Nat):List Nat:=(List.range k).filter fun i=>countB (aP fs i) lim
theorem zA {fs:List FV}{lim:Int}{k:Nat}(h:countB (aP fs k) lim=true):aS fs lim (k+1)=aS fs lim k++[k]:=by
 unfold aS
 rw[List.range_succ,List.filter_append]
 simp[h]
theorem BP {fs:List FV}{lim:Int}{k:Nat}(h:countB (aP fs k) lim=false):aS fs lim (k+1)=aS fs lim k:=by
 unfold aS
 rw[List.range_succ,List.filter_append]
 simp[h]
theorem pI (fs:List FV)(lim:Int)(k:Nat):(aS fs lim k).length<=k:=by
 have:=List.length_filter_le (fun i=>countB (aP fs i) lim) (List.range k)
 rw[List.length_range] at this
 exact this
theorem ED (A:Option Addr)(n c:Nat)(lim:Int)(w:World) :
  Calls Tryz.prog 33 #[.agg #[.slice A n c,.int .i64 lim]] w fun e w'=>e=.returned (.func (.func 70) #[] #[.pointer (some ⟨w.heap.size,0,none⟩)])/\w.alloc (.cells #[.slice A n c,.int .i64 lim] 84 (0,0))=w':=by
 go_enter Tryz.func33,Tryz.ntmps33
 go_wp2
 go_ret
 exact⟨rfl,rfl⟩
theorem EC (n K:Nat)(M:Nat->TypeId->Prop)(fs:List FV)(A:Option Addr)(c B:Nat)(lim:Int)(w:World)(hM1:∀b T,M b T->K<=b)(hM2:∀T,¬ M B T)(hM3:∀b,w.heap.size<=b->¬ M b 65)(hB:w.heap[B]?=some (.cells #[.slice A fs.length c,.int .i64 lim] 84 (0,0)))
  (hr:Rd w K 9 A (fs.map FV.cells)) (hK:K<=w.heap.size) (hl:fs.length<=1000000) :
  SeqStopsK Fence.wide n Tryz.prog 70 #[.pointer (some ⟨B,0,none⟩)] (Oc fs lim) (iC M) (fun xs=>xs.map gI=aS fs lim fs.length) (fun pre=>∃k,k<=fs.length/\pre.map gI=aS fs lim k) fs.length w:=by
 intro l J Jx W hW hJ hJx hY h0
 have hm:=aQ
 have HR:=hide ((hr.below (hW.mono hK)))
 have hBW:W.heap[B]?=some _:=(hW.block B (ax hB)).trans hB
 have c0:W.cell? ⟨B,0,none⟩=some (.slice A fs.length c):=by rw[ag hBW];rfl
 have c1:W.cell? ⟨B,1,none⟩=some (.int .i64 lim):=by rw[ag hBW];rfl
 have hMK:Hid (∀b T,b<K->¬ M b T):=hide (fun b T hb h=>by have:=hM1 b T h;omega)
 have Sm:Hid (∀T,¬ M B T):=hide hM2
 have hMW:Hid (∀b,w.heap.size<=b->¬ M b 65):=hide hM3
 have hKW:K<=W.heap.size:=Nat.le_trans hK hW.size
 have XY:=hW.size
 have HJ:=hide hJ
 have HJx:=hide hJx
 have HY:=hide hY
 have H0:=hide h0
 clear hr hM1 hM2 hM3 hJ hJx hY h0 hW hB hBW
 refine callsIn_of_wp Tryz.func70 rfl trivial ?_ rfl
 simp only[Tryz.ntmps70,List.size_toArray,List.length_cons,List.length_nil,Nat.reduceAdd,Nat.reduceSub,Array.replicate_succ,Array.replicate_zero,List.push_toArray,List.append_toArray,List.nil_append,List.cons_append]
 gi_wp2_with fail
 gi_loopw [8] (fun i wr=>∃ (k:Nat) (pre:List (CI fs lim)),k<=fs.length/\i=.int .i64 k/\pre.map gI=aS fs lim k/\J pre wr/\Rd wr K 9 A (fs.map FV.cells)/\wr.cell? ⟨B,0,none⟩=some (.slice A fs.length c)/\wr.cell? ⟨B,1,none⟩=some (.int .i64 lim)/\W.heap.size<=wr.heap.size) (fun i _=>fs.length-(intOf i).toNat)
 case atStart=>exact⟨0,[],by omega,rfl,rfl,H0.out,HR.out,c0,c1,Nat.le_refl _⟩
 case round =>
  obtain⟨k,pre,hk,rfl,hpre,hJ,hrd,hcB,Sj,hsz⟩:=hrel
  have lL:pre.length<=k:=by have:=congrArg List.length hpre;have:=pI fs lim k;simp only[List.length_map] at *;omega
  have kR:=hide hpre
  clear c0 c1 hpre
  by_cases hlt:k<fs.length
  ·obtain⟨b,off,hA,hb,fc⟩:=rowAt hrd hlt
   have hix:=aJ (cap:=c) Tryz.underlying23 Tryz.sizeOf65 hA.out hlt
   have hbw:b<wr.heap.size:=by omega
   have hBw:B<wr.heap.size:=cell_lt hcB
   obtain⟨u,hu⟩:∃u,countB (aP fs k) lim=u:=⟨_,rfl⟩
   have HU:=hide hu
   obtain⟨f,hf⟩:∃f,aP fs k=f:=⟨_,rfl⟩
   have HFK:=hide hf
   rw[hf] at fc hu
   have kc:=hide (fun W'=>LM A fs.length c lim f u W' hu)
   obtain⟨d0,d1,d2,d3,d4,d5,d6,d7,d8⟩:=fc
   have Fb:=hide hrd
   have OM:=hide lL
   have Cj:=hide hJ
   have ZZ:=hide hcB
   have Jy:=hide Sj
   clear hrd hJ lL hf hu hA
   gi_wp2_with fail
   refine⟨trivial,(fun h=>by cases h),?_⟩
   refine (callsIn_wide.2 (kc.out _)).mono ?_
   rintro e w' ⟨rfl,⟨n1,os1⟩,rfl⟩
   dsimp only
   have hg5:Grew wr (grow (dr (wr.alloc (.cells #[.int .i64 f.id,.int .i64 f.kind,.int .i64 f.x,.int .i64 f.y,.int .i64 f.dn,.slice f.aA f.area.length f.ac,.int .i64 f.dep,.int .i64 f.sym,.slice f.sA f.secs.length f.sc] 65)) n1) os1):=gw
   cases u
   ·have FU:Hid (pre.map gI=aS fs lim (k+1)):=hide (by rw[kR.out,BP HU.out])
    have Em:=HJ.out _ _ _ none Cj.out (hg5.grownBy none) (fun r hr=>by cases hr)
    have HJ5:=hide Em
    have uX:=hide hg5
    clear Em hg5
    gi_wp2_with fail
    refine⟨(fun _ h=>by cases h),?_⟩
    gi_wp2_with fail
    go_roundw
    case rel=>exact⟨k+1,pre,by omega,by go_num,FU.out,HJ5.out,Fb.out.grew uX.out (by omega),(uX.out.below.cell (p:=⟨B,0,none⟩) hBw).trans ZZ.out,(uX.out.below.cell (p:=⟨B,1,none⟩) hBw).trans Jy.out,by have:=uX.out.below.size;omega⟩
    case measure=>simp[intOf];omega
   ·have hk0:=HU.out
    have FU:Hid ((pre++[(⟨⟨k,hlt⟩,hk0⟩:CI fs lim)]).map gI=aS fs lim (k+1)):=hide (by rw[List.map_append,kR.out,zA hk0];rfl)
    have henc:Oc fs lim ⟨⟨k,hlt⟩,hk0⟩=#[f.val]:=by
     show #[(aP fs k).val]=#[f.val]
     rw[HFK.out]
    have Em:=HJ.out _ _ _ none Cj.out (hg5.grownBy none) (fun r hr=>by cases hr)
    obtain⟨Zd,Ye,ZJ,ZF,hy1,hR1⟩:=HY.out _ ⟨⟨k,hlt⟩,hk0⟩ _ Em (by have:=OM.out;omega)
    rw[henc] at hy1
    have HR1:=hide hR1
    have HR5:=hide (Fb.out.grew hg5 (by omega))
    have HC5:=hide ((hg5.below.cell (p:=⟨B,0,none⟩) hBw).trans ZZ.out)
    have HC6:=hide ((hg5.below.cell (p:=⟨B,1,none⟩) hBw).trans Jy.out)
    have hbx:(grow (dr (wr.alloc (.cells #[.int .i64 f.id,.int .i64 f.kind,.int .i64 f.x,.int .i64 f.y,.int .i64 f.dn,.slice f.aA f.area.length f.ac,.int .i64 f.dep,.int .i64 f.sym,.slice f.sA f.secs.length f.sc] 65)) n1) os1).heap[wr.heap.size]?=some (.cells #[.int .i64 f.id,.int .i64 f.kind,.int .i64 f.x,.int .i64 f.y,.int .i64 f.dn,.slice f.aA f.area.length f.ac,.int .i64 f.dep,.int .i64 f.sym,.slice f.sA f.secs.length f.sc] 65 (0,0)):=(heap_grow_old _ _ (by simp[bQ])).trans (az _ _ _ rfl)
    have mG:=hide hbx
    clear hbx
    clear hR1 hg5 Em henc
    gi_wp2_with fail
    refine⟨(fun h=>by cases h),?_⟩
    refine HR1.out.mono ?_
    rintro e W3 (⟨rfl,hJ3,hk3⟩|⟨rfl,hJx3⟩)
    ·have uk:=HR5.out.kpm hk3 hMK.out
     have hc3:=hk3.cell Sm.out HC5.out
     have hc4:=hk3.cell Sm.out HC6.out
     have MF:=hide hJ3
     have TN:=hide hc3
     have HC4:=hide hc4
     have JA:=hide uk
     have hb3:=ax (hk3 _ _ _ _ (hMW.out _ (by omega)) mG.out)
     have hB3:=cell_lt hc3
     clear hc3 hc4 uk hk3 hy1 d0 d1 d2 d3 d4 d5 d6 d7 d8
     clear hJ3
     dsimp only
     gi_wp2_with fail
     go_roundw
     case rel=>exact⟨k+1,_,by omega,by go_num,FU.out,MF.out,JA.out,TN.out,HC4.out,by omega⟩
     case measure=>simp[intOf];omega
    ·have HX:=hide hJx3
     clear hJx3 hy1
     dsimp only
     gi_wp2_with fail
     refine bodyPost_ret (results_none rfl _ _ _) rfl ?_
     exact⟨⟨_,rfl⟩,.inr ⟨_,⟨k+1,by omega,FU.out⟩,HX.out⟩⟩
  ·obtain rfl:k=fs.length:=by omega
   gi_wp2
   go_end0
   exact⟨⟨_,rfl⟩,.inl ⟨_,kR.out,hJ⟩⟩
set_option maxHeartbeats 8000000
set_option maxRecDepth 100000
def zh (fs:List FV)(x:Int):Option Value:=(fs.find? fun f=>decide (f.id=x)).map FV.val
theorem RI {fs:List FV}{k:Nat}(hk:k<fs.length)(hd:∀j,j<k->(aP fs j).id≠(aP fs k).id):zh (fs.take (k+1))=JI (zh (fs.take k)) (aP fs k).id (aP fs k).val:=by
 funext x
 unfold zh JI
 rw[List.take_add_one,dA hk]
 simp only[Option.toList]
 rw[List.find?_append]
 by_cases e:x=(aP fs k).id
 ·subst e
  rw[if_pos rfl]
  have h0:(fs.take k).find? (fun f=>decide (f.id=(aP fs k).id))=none:=by
   rw[List.find?_eq_none]
   intro f hf
   obtain⟨j,hj,he⟩:=List.getElem_of_mem hf
   rw[List.length_take] at hj
   have:=hd j (by omega)
   have a:=dA (fs:=fs) (k:=j) (by omega)
   rw[List.getElem?_eq_getElem (by omega)] at a
   injection a with a
   rw[List.getElem_take,a] at he
   rw[<-he]
   simpa using this
  rw[h0]
  simp
 ·rw[if_neg e]
  cases h:(fs.take k).find? (fun f=>decide (f.id=x)) with
  | some f=>rfl
  | none =>
   have:¬ (aP fs k).id=x:=fun h=>e h.symm
   simp[this]
def acB (w:World)(fs:List FV)(e:Ending)(w':World):Prop:=∃b,e=.returned (.map (some b))/\w.heap.size<=b/\fP w' b fs.length (zh fs)/\Grew w w'
theorem PT (fs:List FV)(A:Option Addr)(c:Nat)(w:World)(hr:mM w w.heap.size A fs)(hv:bG fs=true) :
  Calls Tryz.prog 54 #[.slice A fs.length c] w (acB w fs):=by
 have hm:=aQ
 have hmm:=@run_makeMap Tryz.prog
 have hlen:=iY hv
 have HR:=hide hr.row
 have HA:=hide (ql hv)
 have HI:=hide (fun k hk=>yV hv (k:=k) hk)
 clear hr hv
 go_enter Tryz.func54,Tryz.ntmps54
 go_wp2_with fail
 go_loopw [9] (fun i wr=>∃k:Nat,k<=fs.length/\i=.int .i64 k/\Grew w wr/\fP wr w.heap.size k (zh (fs.take k))) (fun i _=>fs.length-(intOf i).toNat)
 case atStart=>exact⟨0,by omega,rfl,gw,fP.made w⟩
 case round =>
  obtain⟨k,hk,rfl,hg,hmp⟩:=hrel
  have HG:=hide hg
  have HM:=hide hmp
  clear hg hmp hmm
  by_cases hlt:k<fs.length
  ·obtain⟨b,off,hA,hb,fc⟩:=rowAt (HR.out.up HG.out) hlt
   have hix:=aJ (cap:=c) Tryz.underlying23 Tryz.sizeOf65 hA.out hlt
   have hst:=RI hlt (fun j hj=>by have:=HA.out j k hj hlt;omega)
   have hid:=HI.out k hlt
   obtain⟨f,hf⟩:∃f,aP fs k=f:=⟨_,rfl⟩
   rw[hf] at fc hst hid
   have HST:=hide hst
   have hwf:(Lit.int .i64 f.id).wf=true:=wf64 (by omega)
   obtain⟨c0,c1,c2,c3,c4,c5,c6,c7,c8⟩:=fc
   clear hA hst hf
   go_wp2_with (at_mapUpdate;refine G9 rfl (.tmp 13) (.tmp 15) (.tmp 16) 114 rfl 65 Tryz.underlying114 rfl (HM.out.up gw) (by unfold maxLen;omega) _ _ rfl rfl hwf ?_;intro w1 hm1 hg1)
   have iI:Hid (Grew w w1):=hide (Grew.of_below ((HG.out.trans gw).below.grown hg1 (HG.out.trans gw).below.size (fun q hq=>by injection hq with hq;omega)))
   have HM1:Hid (fP w1 w.heap.size (k+1) (zh (fs.take (k+1)))):=hide (by rw[HST.out];exact hm1)
   clear hm1 hg1
   go_wp2_with fail
   go_roundw
   case rel=>exact⟨k+1,by omega,by go_num,iI.out,HM1.out⟩
   case measure=>simp[intOf];omega
  ·obtain rfl:k=fs.length:=by omega
   rw[List.take_length] at HM
   go_wp2_with fail
   go_ret
   exact⟨_,rfl,Nat.le_refl _,HM.out,HG.out⟩
theorem D6 {ps:List Pt}(h:iO ps=true){k:Nat}(hk:k<ps.length):lJ ps k<(ai ps k).1/\(ai ps k).1<=100000/\1<=(ai ps k).2/\(ai ps k).2<=100000:=by
 unfold iO lI at h
 rw[List.all_eq_true] at h
 have:=h k (List.mem_range.2 hk)
 unfold tK at this
 rw[decide_eq_true_eq] at this
 exact this
theorem Pz {ps:List Pt}(h:iO ps=true):∀i j,i<j->j<ps.length->(ai ps i).1<(ai ps j).1:=by
 have hs:∀k,k+1<ps.length->(ai ps k).1<(ai ps (k+1)).1:=fun k hk=>by
  have:=(D6 h (k:=k+1) hk).1
  unfold lJ at this
  rw[if_neg (by omega),Nat.add_sub_cancel] at this
  exact this
 intro i j hij
 induction j with
 | zero=>omega
 | succ j ih =>
  intro hj
  by_cases e:i=j
  ·subst e;exact hs i hj
  ·exact Int.lt_trans (ih (by omega) (by omega)) (hs j hj)
theorem Py {ps:List Pt}(h:iO ps=true){k:Nat}(hk:k<ps.length):1<=(ai ps k).1:=by
 by_cases h0:k=0
 ·subst h0
  have:=(D6 h hk).1
  unfold lJ at this
  rw[if_pos rfl] at this
  omega
 ·have h1:=(D6 h (k:=0) (by omega)).1
  unfold lJ at h1
  rw[if_pos rfl] at h1
  have:=Pz h 0 k (by omega) hk
  omega
theorem Yw {ps:List Pt}(h:iO ps=true):ps.length<=100000:=by
 have hk:∀k,k<ps.length->(k:Int)+1<=(ai ps k).1:=by
  intro k
  induction k with
  | zero=>intro hk;have:=Py h hk;omega
  | succ k ih=>intro hk;have:=ih (by omega);have:=Pz h k (k+1) (by omega) hk;omega
 by_cases h0:ps.length=0
 ·omega
 ·have h1:=hk (ps.length-1) (by omega)
  have h2:=D6 h (k:=ps.length-1) (by omega)
  omega
def acy (ms:List Pt)(p:Pt):Option Pt:=(ms.find? fun q=>decide (q.1=p.2)).map fun q=>(p.1,q.2)
def ZN (ps ms:List Pt)(k:Nat):List Pt:=(ps.take k).filterMap (acy ms)
def ZO (ps ms:List Pt):List Pt×Int:=if (iO ps&&iO ms)=true then (ZN ps ms ps.length,0) else ([],1)
def acA (w:World)(r:List Pt×Int)(e:Ending)(w':World):Prop:=∃A' c',e=.returned (.tuple #[.slice A' r.1.length c',.int .i64 r.2])/\Rd w' w'.heap.size 2 A' (r.1.map dU)/\Grew w w'
theorem adA:(Tryz.prog.info? 118).map (fun i=>(i.zero,i.size,i.bytes))=some (some (.agg #[.int .i64 0,.int .i64 0]),2,16):=by kernel_rfl
theorem Ic:∃i,Tryz.prog.info? 118=some i/\i.zero=some (.agg #[.int .i64 0,.int .i64 0])/\i.size=2/\i.bytes=16:=by
 have h:=adA
 cases hi:Tryz.prog.info? 118 with
 | none=>rw[hi] at h;simp at h
 | some i =>
  rw[hi] at h
  simp at h
  exact⟨i,rfl,h.1,h.2.1,h.2.2⟩
attribute [local go_sem] Oper.semAt_some
theorem Ew {W w1:World}{n₀ n₁ B:Nat}{t e:TypeId}{size:Nat}{v v':Value}{k m:Nat}{xs ys:List Value}
  (hv:Boxed W B t v) (hte:t≠e) (hrow:W.ownsRow n₀ e size v k xs) (hB:n₁<=B) (h01:n₁<=n₀) (hown':w1.ownsRow n₀ e size v' m ys) (hgrow:W.grownBy w1 v.ownBlock) :
  Boxed w1 B t v/\Boxed (w1.setCell ⟨B,0,none⟩ v') B t v'/\(w1.setCell ⟨B,0,none⟩ v').ownsRow n₀ e size v' m ys/\KeepsOthers W (w1.setCell ⟨B,0,none⟩ v')/\Below n₁ W (w1.setCell ⟨B,0,none⟩ v') /\
  ∀b cs T fr,b≠B->¬ (n₀<=b/\T=e)->W.heap[b]?=some (.cells cs T fr)->(w1.setCell ⟨B,0,none⟩ v').heap[b]?=some (.cells cs T fr):=by
 have hv1:Boxed w1 B t v:=hv.kept hgrow (hv.not_row hte hrow)
 have hcell:∀j o,v.ownBlock=some j->W.heap[j]?=some o->∃cs,o=.cells cs e (0,0):=by
  intro j o ej hj
  rcases hrow.2 with⟨rfl,_⟩|⟨g,cap,cur,rfl,_,hgb,_⟩
  ·simp[Value.ownBlock] at ej
  ·obtain rfl:g=j:=by simpa[Value.ownBlock] using ej
   rw[hgb] at hj
   injection hj with hj
   exact⟨cur,hj.symm⟩
 refine⟨hv1,hv1.set v',hown'.kept (grownBy_setCell' w1 B v') (.inr (hv1.not_row hte hown').symm),?_,?_,?_⟩
 ·refine (KeepsOthers.of_grownBy hgrow fun j o ej hj=>?_).trans (KeepsOthers.setCell _ _ _)
  obtain⟨cs,rfl⟩:=hcell j o ej hj
  rfl
 ·refine ((Below.refl n₁ W).grown hgrow (Nat.le_trans hB (Nat.le_of_lt hv.lt)) fun j ej=>?_).setCell (p:=⟨B,0,none⟩) hB v'
  exact Nat.le_trans h01 (hrow.lt j ej).1
 ·intro b cs T fr hbB hT hb
  rw[Below.heap_setCell w1 ⟨B,0,none⟩ v' b hbB,hgrow.block b (ax hb) ?_]
  ·exact hb
  ·intro e2
   refine hT ⟨(hrow.lt b e2.symm).1,?_⟩
   obtain⟨cs',h⟩:=hcell b _ e2.symm hb
   injection h
def uZ (fs gs:List FV)(is:List Nat):List Int:=(is.filter fun i=>decide (oJ (aP fs i) gs=0)).map fun i=>(aP fs i).id
def DC (fs gs:List FV)(lim:Int):List Int×Int:=if jc fs gs lim=true then (uZ fs gs (aS fs lim fs.length),0) else ([],1)
def agE (Z R:Nat)(U:TypeId)(b:Nat)(T:TypeId):Prop:=b=Z\/(R<=b/\T=U)
theorem wE {fs gs:List FV}{lim:Int}(h:jc fs gs lim=true):bG fs=true/\bG gs=true/\qR lim=true:=by
 unfold jc at h
 simpa using h
set_option maxHeartbeats 8000000
set_option maxRecDepth 100000
def nK (fs gs:List FV)(is:List Nat):List Pt:=is.map fun i=>((aP fs i).id,oJ (aP fs i) gs)
def kE (fs gs:List FV)(lim:Int):List Pt×Int:=if jc fs gs lim=true then (if uZ fs gs (aS fs lim fs.length)=[] then (nK fs gs (aS fs lim fs.length),0) else ([],19)) else ([],1)
theorem Q4 (fs gs:List FV)(is:List Nat)(i:Nat):nK fs gs (is++[i])=nK fs gs is++[((aP fs i).id,oJ (aP fs i) gs)]:=by
 unfold nK
 rw[List.map_append]
 rfl
theorem Uk {fs gs:List FV}{lim:Int}(x:CI fs lim)(h:oJ (aP fs (gI x)) gs=0):uZ fs gs (aS fs lim fs.length)≠[]:=by
 intro e
 have h1:gI x∈aS fs lim fs.length:=List.mem_filter.2 ⟨List.mem_range.2 x.1.2,x.2⟩
 unfold uZ at e
 rw[List.map_eq_nil_iff,List.filter_eq_nil_iff] at e
 exact e _ h1 (by simpa using h)
theorem Ul {fs gs:List FV}{is:List Nat}(h:∀i,i∈is->oJ (aP fs i) gs≠0):uZ fs gs is=[]:=by
 unfold uZ
 rw[List.map_eq_nil_iff,List.filter_eq_nil_iff]
 intro i hi
 simpa using h i hi
theorem ZW (fs gs:List FV)(A A':Option Addr)(c c':Nat)(lim:Int)(w:World)(hr:mM w w.heap.size A fs)(hr':mM w w.heap.size A' gs)(hc:fs.length<=100000000000)(hc':gs.length<=100000000000) :
  Calls Tryz.prog 34 #[.slice A fs.length c,.slice A' gs.length c',.int .i64 lim] w (acA w (kE fs gs lim)):=by
 have hm:=aQ
 obtain⟨i0,hi0,hz0,hz1,hz2⟩:=Ic
 obtain⟨u,hu⟩:∃u,jc fs gs lim=u:=⟨_,rfl⟩
 have k1:=hide (fun W (hg:Grew w W)=>Qv fs gs A A' c c' lim u W (hr.up hg) (hr'.up hg) (by omega) (by omega) hu)
 have hre:kE fs gs lim=if u=true then (if uZ fs gs (aS fs lim fs.length)=[] then (nK fs gs (aS fs lim fs.length),0) else ([],19)) else ([],1):=by
  unfold kE
  rw[hu]
 rw[hre]
 cases u
 ·rw[if_neg (by simp)]
  clear hu hr hr' hre
  go_enter Tryz.func34,Tryz.ntmps34
  go_wp2_with (go_at_call 52;with_reducible refine aT (k1.out _ gw) fun _ _=>?_;dsimp only)
  refine bodyPost_ret (v:=.tuple #[.slice none 0 0,.int .i64 1]) (by simp[results,Tryz.results34,go_sem]) rfl ?_
  exact⟨none,0,rfl,Rd.nil _ _ _ _,gw⟩
 ·rw[if_pos rfl]
  obtain⟨res,hres⟩:∃r,(if uZ fs gs (aS fs lim fs.length)=[] then (nK fs gs (aS fs lim fs.length),(0:Int)) else ([],19))=r:=⟨_,rfl⟩
  rw[hres]
  have oU:=hide hres
  obtain⟨hv,hv',hl⟩:=wE hu
  have hlen:=iY hv
  have HR:=hide hr
  have HR':=hide hr'
  clear hu hr hr' hre hv hv' hl hres
  refine (callsIn_wide (n:=9)).1 ?_
  refine callsIn_of_wp_marks Tryz.func34 rfl trivial ?_ rfl
  simp only[Tryz.ntmps34,List.size_toArray,List.length_cons,List.length_nil,Nat.reduceAdd,Nat.reduceSub,Array.replicate_succ,Array.replicate_zero,List.push_toArray,List.append_toArray,List.nil_append,List.cons_append]
  gi_wp2_with fail
  refine⟨trivial,?_⟩
  refine (callsIn_wide.2 (k1.out _ gw)).mono ?_
  rintro e w' ⟨rfl,hg1⟩
  obtain⟨bx,hbx⟩:∃bx:List Obj,bx=[.cells #[.slice A' gs.length c'] 23 (0,0),.cells #[.slice none 0 0] 34 (0,0),.cells #[.int .i64 0] 31 (0,0)]:=⟨_,rfl⟩
  have hb1:Bx w' w.heap.size bx:=by rw[hbx];refine (Bx.lH _ w).1.grew ?_;simp only[List.foldl];exact Grew.trans gw hg1
  have hw1:Grew w w':=Grew.trans gw hg1
  have hz1':w.heap.size+3<=w'.heap.size:=by
   have:=hb1 2 _ (by rw[hbx];rfl)
   have:=ax this
   omega
  clear hg1
  subst hbx
  have Hb1:=hide hb1
  have Hw1:=hide hw1
  clear hb1 hw1 k1
  dsimp only
  gi_wp2_with fail
  refine⟨trivial,?_⟩
  refine (callsIn_wide.2 (ED _ _ _ _ _)).mono ?_
  rintro e w'' ⟨rfl,rfl⟩
  dsimp only
  gi_wp2_with fail
  refine dJ ?_
  intro a0 W0 ha hW
  have um:Grew w' W0:=by rw[<-hW];exact gw
  have hg0:Grew w W0:=Hw1.out.trans um
  have hb0:=Hb1.out.grew um
  have hn0:Boxed W0 w'.heap.size 34 (.slice none 0 0):=by rw[<-hW];exact (heap_alloc_old _ _ (by simp)).trans (heap_alloc_new _ _)
  have hk0:W0.heap[w'.heap.size+1]?=some (.cells #[.slice A fs.length c,.int .i64 lim] 84 (0,0)):=by rw[<-hW];exact az _ _ _ (by simp)
  have hsz:W0.heap.size=w'.heap.size+2:=by rw[<-hW];simp
  clear hW um
  obtain⟨Z,hZ⟩:∃Z,w'.heap.size=Z:=⟨_,rfl⟩
  rw[hZ] at hn0 hk0 hsz hz1'
  have hdb:Bx W0 (Z+1) [.cells #[.slice A fs.length c,.int .i64 lim] 84 (0,0)]:=fun i o ho=>by
   cases i with
   | zero=>injection ho with ho;rw[<-ho];exact hk0
   | succ i=>simp at ho
  have ha2:a0.eval (.tmp 19)=.func (.func 70) #[] #[.pointer (some ⟨Z+1,0,none⟩)]:=by rw[<-ha,<-hZ];simp[Act.eval]
  refine wpIn_rangeFunc_ownH (n:=9) rfl (by omega) (gf:=70) (lb:=#[.pointer (some ⟨Z+1,0,none⟩)]) ha2 trivial (enters_of Tryz.func70 (by kernel_rfl) rfl)
   (EC 8 w.heap.size (agE Z (Z+2) 118) fs A c (Z+1) lim W0 (fun b T hb=>by rcases hb with rfl|⟨h,_⟩<;>omega) (fun T hb=>by rcases hb with h|⟨h,_⟩<;>omega) (fun b hb hM=>hM.elim (fun h=>by omega) (fun h=>absurd h.2 (by decide))) hk0 (HR.out.row.grew hg0 (Nat.le_refl _)) (by omega) (by omega))
   (fun h k=>h.trans k) iC.bk (Below.refl _ _) (fun _=>rfl)
   (fun pre W=>(((Below w.heap.size w W/\Bx W w.heap.size _)/\Bx W (Z+1) _)/\(∀i∈pre,oJ (aP fs (gI i)) gs≠0))/\∃v,Boxed W Z 34 v/\W.ownsRow (Z+2) 118 2 v (nK fs gs (pre.map gI)).length ((nK fs gs (pre.map gI)).flatMap dU)/\True)
   (fun e pre W=>((Below w.heap.size w W/\Boxed W (w.heap.size+1) 34 (.slice none 0 0))/\Boxed W (w.heap.size+2) 31 (.int .i64 19))/\(e=.ret/\uZ fs gs (aS fs lim fs.length)≠[]))
   (OwnFrom.and (OwnFrom.and (OwnFrom.and (OwnFrom.and (ownFrom_below (Nat.le_refl _) hg0.below.size) (Bx.own (by simp;omega))) (Bx.own (by simp;omega))) (ownFrom_pure _)) (Own.from (holdsRow_own _ _ _ _ _ (fun pre:List (CI fs lim)=>(nK fs gs (pre.map gI)).length) (fun pre:List (CI fs lim)=>(nK fs gs (pre.map gI)).flatMap dU) (fun _ _=>True)) _))
   (fun q=>OwnFrom.and (OwnFrom.and (OwnFrom.and (ownFrom_below (Nat.le_refl _) hg0.below.size) (fun s X Y row h1 hg hr=>Own.from (boxed_own (β:=Unit) _ _ (fun _=>_)) _ () X Y row h1 hg hr)) (fun s X Y row h1 hg hr=>Own.from (boxed_own (β:=Unit) _ _ (fun _=>_)) _ () X Y row h1 hg hr)) (ownFrom_pure _))
   ⟨⟨⟨⟨hg0.below,hb0⟩,hdb⟩,fun i hi=>by cases hi⟩,_,hn0,World.ownsRow_nil _ _ _ _,trivial⟩
   (fun x a' W=>∃B,W.heap[B]?=some (.cells #[.int .i64 (aP fs (gI x)).id,.int .i64 (aP fs (gI x)).kind,.int .i64 (aP fs (gI x)).x,.int .i64 (aP fs (gI x)).y,.int .i64 (aP fs (gI x)).dn,.slice (aP fs (gI x)).aA (aP fs (gI x)).area.length (aP fs (gI x)).ac,.int .i64 (aP fs (gI x)).dep,.int .i64 (aP fs (gI x)).sym,.slice (aP fs (gI x)).sA (aP fs (gI x)).secs.length (aP fs (gI x)).sc] 65 (0,0))/\B≠Z/\a'={ tmps:=(a0.tmps.setIfInBounds 20 (aP fs (gI x)).val).setIfInBounds 9 (.pointer (some ⟨B,0,none⟩)),defers:=[] })
   (fun x a'=>by
    rintro s X Y row ⟨B,h1,h2⟩ hg hr
    exact⟨B,fE h1 hg (fun r e=>(hr r e).2),h2⟩)
   ?assign ?body ?done ?stop
  case assign =>
   rintro l pre x W K ⟨⟨⟨⟨hB,hb⟩,hd⟩,hp⟩,v,hn,hown,_⟩ hK
   rw[show Oc fs lim x=#[(aP fs (gI x)).val] from rfl,L6]
   subst ha
   simp only[List.setIfInBounds_toArray,List.set_cons_succ,List.set_cons_zero] at hK ⊢
   have vT:=hide hK
   have hbl:=hn.lt
   clear hK
   gi_wp2_with fail
   exact vT.out _ _ ((KeepsOthers.alloc _ _).from _) (iC.grew (Grew.alloc (Grew.refl _) _)) ⟨⟨⟨⟨hB.alloc hB.size _,hb.grew (Grew.alloc (Grew.refl _) _)⟩,hd.grew (Grew.alloc (Grew.refl _) _)⟩,hp⟩,v,hn.alloc _,hown.alloc _,trivial⟩ ⟨W.heap.size,heap_alloc_new _ _,by omega,rfl⟩
  case body =>
   rintro l pre x a' W hl2 _ ⟨⟨⟨⟨hB,hb⟩,hd⟩,hp⟩,v,hn,hown,_⟩ ⟨B,hx,hBne,rfl⟩ hlt
   subst ha
   have hfm:aP fs (gI x)∈fs:=dL x.1.2
   have hsn:=Q4 fs gs (pre.map gI) (gI x)
   rw[show (pre.map gI)++[gI x]=(pre++[x]).map gI by simp] at hsn
   have hol:(nK fs gs (pre.map gI)).length<=pre.length:=by unfold nK;simp
   have hpl:pre.length<300:=by omega
   obtain⟨out,hout⟩:∃o,nK fs gs (pre.map gI)=o:=⟨_,rfl⟩
   rw[hout] at hown hol hsn
   have hfr:=HR.out.each _ hfm
   obtain⟨r,hrb⟩:∃r,oJ (aP fs (gI x)) gs=r:=⟨_,rfl⟩
   rw[hrb] at hsn
   have hnext:r≠0->∀i∈pre++[x],oJ (aP fs (gI i)) gs≠0:=fun hr0 i hi=>by
    rcases List.mem_append.1 hi with h|h
    ·exact hp i h
    ·obtain rfl:=List.mem_singleton.1 h
     rw[hrb];exact hr0
   have hstop:r=0->uZ fs gs (aS fs lim fs.length)≠[]:=fun hr0=>Uk x (by rw[hrb,hr0])
   have kF:=hide hnext
   have qC:=hide hstop
   clear hnext hstop hp
   have hw2:=Grew.of_below hB
   have kb:=hide (fun W' (hg:Grew W W')=>agy (aP fs (gI x)) gs A' c' r W' (hfr.up (hw2.trans hg)) (HR'.out.up (hw2.trans hg)) (by omega) hrb)
   obtain⟨f,hf⟩:∃f,aP fs (gI x)=f:=⟨_,rfl⟩
   rw[hf] at hsn hx kb
   simp only[hf]
   obtain⟨Av,cv,rfl,hcv,hrd⟩:=Rd.ik (f:=dU) mZ hown rfl
   have c0:W.cell? ⟨Z,0,none⟩=_:=hn.cell
   have f0:W.frozen? ⟨Z,0,none⟩=_:=hn.frozen
   have c1:W.cell? ⟨w.heap.size,0,none⟩=some (.slice A' gs.length c'):=(hb.box 0 rfl).cell
   have c2:W.cell? ⟨w.heap.size+1,0,none⟩=_:=(hb.box 1 rfl).cell
   have f2:W.frozen? ⟨w.heap.size+1,0,none⟩=_:=(hb.box 1 rfl).frozen
   have c3:W.cell? ⟨w.heap.size+2,0,none⟩=_:=(hb.box 2 rfl).cell
   have f3:W.frozen? ⟨w.heap.size+2,0,none⟩=_:=(hb.box 2 rfl).frozen
   have d0:W.cell? ⟨B,0,none⟩=some _:=ag hx 0
   have d1:W.cell? ⟨B,1,none⟩=some _:=ag hx 1
   have d2:W.cell? ⟨B,2,none⟩=some _:=ag hx 2
   have d3:W.cell? ⟨B,3,none⟩=some _:=ag hx 3
   have d4:W.cell? ⟨B,4,none⟩=some _:=ag hx 4
   have d5:W.cell? ⟨B,5,none⟩=some _:=ag hx 5
   have d6:W.cell? ⟨B,6,none⟩=some _:=ag hx 6
   have d7:W.cell? ⟨B,7,none⟩=some _:=ag hx 7
   have d8:W.cell? ⟨B,8,none⟩=some _:=ag hx 8
   have lB:=ax hx
   have lZ:=hn.lt
   have lD:Z+1<W.heap.size:=ax (hd 0 _ rfl)
   have l0:w.heap.size<W.heap.size:=by omega
   have l1:w.heap.size+1<W.heap.size:=by omega
   have l2:w.heap.size+2<W.heap.size:=by omega
   have HB:=hide hB
   have Hb:=hide hb
   have Hd:=hide hd
   have Hn:=hide hn
   have HX:=hide hx
   have HN:=hide hown
   have HSN:=hide hsn
   clear hB hb hd hn hown hx hsn hout hrd hw2 hfr hrb hfm hf hlt
   try dsimp only
   simp only[List.setIfInBounds_toArray,List.set_cons_succ,List.set_cons_zero]
   gi_wp2_with fail
   refine dm 8 [⟨6,7,10,118,.agg #[.int .i64 0,.int .i64 0]⟩] [] hm (hZ:=(qE.cons Tryz.zeroValue118 Tryz.sizeOf118 qE.nil)) (h:=?_)
   repeat (refine au (fun K hK=>?_);go_simp;first|(refine hK _ ?_;clear hK K)|(apply Exists.intro;refine⟨fun _=>?_,hK _ ?_⟩;(go_at_call 72;with_reducible exact kb.out _ gw);clear hK K))
   refine dW ?_
   refine⟨(jf.cons (by rfl) (by simp[bU,Act.eval,Value.cells,Value.oneCell']) jf.nil),nR.nil,?_⟩
   rintro psq FB Wq iP FT FW
   obtain rfl:FB=[]:=FW
   obtain⟨p0,_,rfl,hp0,hb0,hn0,rfl⟩:=FT
   simp only[putAll,putB,Act.put,aG]
   simp[bU,Act.eval,Value.cells] at hb0
   have xE:Wq.cell? ⟨p0,0,none⟩=some _:=ag hb0 0
   have xC:Wq.cell? ⟨p0,1,none⟩=some _:=ag hb0 1
   have X3:=bD hb0
   have X0:=ax hb0
   have WA:=hide hp0
   clear hb0 hn0 hp0
   have oc:=iR iP
   have of:=jw iP
   have ol:=rE iP
   replace iP:=hide iP
   clear d0 d1 d2 d3 d4 d5 d6 d7 d8
   by_cases hr0:r=0
   ·subst hr0
    have HS2:=hide (qC.out rfl)
    clear kF qC HSN
    gi_wp2_with fail
    have hx1:Boxed Wq (w.heap.size+1) _ _:=dM (Hb.out.box 1 rfl) iP.out
    have hx2:Boxed Wq (w.heap.size+2) _ _:=dM (Hb.out.box 2 rfl) iP.out
    have hbq:Below w.heap.size w Wq:=HB.out.trans (iP.out.below.mono HB.out.size)
    exact⟨(iP.out.aV _).trans ((KeepsFrom.setCell _ _ _ _).trans (KeepsFrom.setCell _ _ _ _)),⟨⟨(hbq.setCell (p:=⟨w.heap.size+1,0,none⟩) (by simp) _).setCell (p:=⟨w.heap.size+2,0,none⟩) (by simp) _,(hx1.set _).other (by simp) _⟩,(hx2.other (by simp) _).set _⟩,rfl,HS2.out⟩
   ·have hne:(r==0)=false:=by simpa using hr0
    have Ci:=hide (kF.out hr0)
    clear kF qC
    have hpq:=WA.out
    gi_wp2_with (gi_at_builtin;refine jD.stop ?_)
    refine jD.go ?_
    refine wpListIn_append_own _ rfl (.tmp 30) (.tmp 32) 34 rfl (Z+2) 118 i0 _ 2 16 Tryz.underlying34 hi0 hz0 hz1 hz2 (by rfl) (by omega) _ out.length _ (by rfl) (aH HN.out (Grew.trans iP.out gw)) ⟨_,0,none⟩ 1 1 (dU (f.id,r)) (by rfl) (by rfl) (by intro j x hx;rw[rO];simp only[Nat.zero_add];match j,hx with|0,hx=>(injection hx with hx;subst hx;go_simp)|1,hx=>(injection hx with hx;subst hx;go_simp)) (fun x hx=>by simp[dU] at hx;rcases hx with rfl|rfl<;>rfl) (by unfold maxLen;omega) (by omega) (by have:=iP.out.below.size;simp;omega) ?_
    intro v' w3 hown' hgrow _
    obtain⟨gv,agx,rfl⟩:=ownsRow_succ hown'
    have TV:Grew W (Wq.alloc (.cells #[.int .i64 f.id,.int .i64 r] 118)):=iP.out.trans gw
    obtain⟨z1,z2,z3,z4,z5,z6⟩:=Ew (n₁:=w.heap.size) (dM Hn.out TV) (by decide) (aH HN.out TV) (by omega) (by omega) hown' hgrow
    have y1:=z1.cell
    have y2:=z1.frozen
    have Z2:=hide z2
    have Z3:=hide z3
    have Z4:=hide z4
    have Z5:=hide z5
    have Z6:=hide z6
    have TZ:=hide TV
    clear z1 z2 z3 z4 z5 z6 hown' hgrow TV c0 f0 c1 c2 f2 c3 f3 oc of ol xE xC X3 X0
    gi_wp2_with fail
    refine⟨(TZ.out.aV _).trans (Z4.out.from _),(iC.grew TZ.out).trans (fun b cs T fr hM hb=>Z6.out b cs T fr (fun h=>hM (.inl h)) (fun h=>hM (.inr h)) hb),⟨⟨⟨⟨(HB.out.trans (TZ.out.below.mono HB.out.size)).trans Z5.out,?_⟩,?_⟩,Ci.out⟩,_,Z2.out,?_,trivial⟩⟩
    ·intro i o ho
     match i,ho with
     | 0,ho=>injection ho with ho;rw[<-ho];exact Z6.out _ _ _ _ (by omega) (by omega) ((Hb.out.grew TZ.out) 0 _ rfl)
     | 1,ho=>injection ho with ho;rw[<-ho];exact Z6.out _ _ _ _ (by omega) (by omega) ((Hb.out.grew TZ.out) 1 _ rfl)
     | 2,ho=>injection ho with ho;rw[<-ho];exact Z6.out _ _ _ _ (by omega) (by omega) ((Hb.out.grew TZ.out) 2 _ rfl)
    ·intro i o ho
     match i,ho with
     | 0,ho=>injection ho with ho;rw[<-ho];exact Z6.out _ _ _ _ (by omega) (by omega) ((Hd.out.grew TZ.out) 0 _ rfl)
    ·rw[HSN.out,List.flatMap_append,List.length_append]
     simpa using Z3.out
  case done =>
   subst ha
   rintro D xs W hD hS ⟨⟨⟨⟨hB,hb⟩,hd⟩,hp⟩,v,hn,hown,_⟩ hK
   have hun:uZ fs gs (aS fs lim fs.length)=[]:=Ul fun i hi=>by
    rw[<-hS] at hi
    obtain⟨j,hj,rfl⟩:=List.mem_map.1 hi
    exact hp j hj
   have hrr:=oU.out
   rw[if_pos hun] at hrr
   subst hrr
   rw[hS] at hown
   have c0:W.cell? ⟨Z,0,none⟩=_:=hn.cell
   have b1:Boxed W (w.heap.size+1) _ _:=hb.box 1 rfl
   have c1:=b1.cell
   have f1:=b1.frozen
   have b2:Boxed W (w.heap.size+2) _ _:=hb.box 2 rfl
   have c2:=b2.cell
   have f2:=b2.frozen
   have l1:=b1.lt
   have l2:=b2.lt
   obtain⟨Av,cv,rfl,_,hrd⟩:=Rd.ik (f:=dU) mZ hown rfl
   have hne1:=(b1.not_row (by decide) hown).symm
   have hne2:=(b2.not_row (by decide) hown).symm
   have HB:=hide hB
   have HN:=hide hown
   have lZ:=hn.lt
   have ag1:=hide hne1
   have ag0:=hide hne2
   clear hB hb hd hn hS hown hp hun hrd b1 b2 hne1 hne2 oU
   gi_wp2_with fail
   have hK2:=(KeepsOthers.setCell (W.setCell ⟨w.heap.size+1,0,none⟩ (.slice Av (nK fs gs (aS fs lim fs.length)).length cv)) ⟨w.heap.size+2,0,none⟩ (.int .i64 0)).same D _ ((KeepsOthers.setCell W ⟨w.heap.size+1,0,none⟩ (.slice Av (nK fs gs (aS fs lim fs.length)).length cv)).same D _ hK rfl) rfl
   refine⟨by simp,.inl ⟨_,_,rfl,run_takeDeferred hK2,?_⟩⟩
   have hb5:=((HB.out.setCell (p:=⟨w.heap.size+1,0,none⟩) (by simp) (.slice Av (nK fs gs (aS fs lim fs.length)).length cv)).setCell (p:=⟨w.heap.size+2,0,none⟩) (by simp) (.int .i64 0)).trans (belowK_b (w:=w) (Nat.le_refl _) _ D _ (.deferred none) (by omega) hK2 rfl rfl)
   have e3:(((W.setCell ⟨w.heap.size+1,0,none⟩ (.slice Av (nK fs gs (aS fs lim fs.length)).length cv)).setCell ⟨w.heap.size+2,0,none⟩ (.int .i64 0)).putObj D (.deferred none)).cell? ⟨w.heap.size+1,0,none⟩=some (.slice Av (nK fs gs (aS fs lim fs.length)).length cv):=by
    rw[aU (by omega)]
    go_simp
   have e4:(((W.setCell ⟨w.heap.size+1,0,none⟩ (.slice Av (nK fs gs (aS fs lim fs.length)).length cv)).setCell ⟨w.heap.size+2,0,none⟩ (.int .i64 0)).putObj D (.deferred none)).cell? ⟨w.heap.size+2,0,none⟩=some (.int .i64 0):=by
    rw[aU (by omega)]
    go_simp
   have ho5:=ownsRow_putObj ((HN.out.kept (grownBy_setCell' W (w.heap.size+1) (.slice Av (nK fs gs (aS fs lim fs.length)).length cv)) (.inr ag1.out)).kept (grownBy_setCell' _ (w.heap.size+2) (.int .i64 0)) (.inr ag0.out)) (.deferred none) hK2 rfl
   obtain⟨Av2,cv2,he2,_,YY⟩:=Rd.ik (f:=dU) mZ ho5 rfl
   obtain rfl:Av=Av2:=by injection he2
   refine⟨.tuple #[.slice Av _ cv,.int .i64 0],by simp[results,Tryz.results34,go_sem,e3,e4];rfl,?_⟩
   exact⟨Av,cv,rfl,YY,Grew.of_below hb5⟩
  case stop =>
   subst ha
   rintro D e pre W hD ⟨k,hk,hr⟩ ⟨⟨⟨hB,hb1⟩,hb2⟩,rfl,hun⟩ hK
   have hrr:=oU.out
   rw[if_neg hun] at hrr
   subst hrr
   have c1:=hb1.cell
   have c2:=hb2.cell
   have HB:=hide hB
   clear hB hb1 hb2 hr hk oU hun
   gi_wp2_with fail
   refine⟨by simp,.inl ⟨_,_,rfl,run_takeDeferred hK,?_⟩⟩
   have hb5:=HB.out.trans (belowK_b (w:=w) (Nat.le_refl _) _ D _ (.deferred none) (by omega) hK rfl rfl)
   have e3:=(aU (W:=W) (D:=D) (i:=0) (o:=.deferred none) (b:=w.heap.size+1) (by omega)).trans c1
   have e4:=(aU (W:=W) (D:=D) (i:=0) (o:=.deferred none) (b:=w.heap.size+2) (by omega)).trans c2
   refine⟨.tuple #[.slice none 0 0,.int .i64 19],by simp[results,Tryz.results34,go_sem,e3,e4],?_⟩
   exact⟨none,0,rfl,Rd.nil _ _ _ _,Grew.of_below hb5⟩
set_option maxHeartbeats 8000000
set_option maxRecDepth 100000
def findF (fs:List FV)(x:Int):Option FV:=fs.find? fun f=>decide (f.id=x)
def qY (fs gs:List FV)(p:Pt):Bool:=match findF fs p.1,findF gs p.2 with|some f,some g=>iT f g|_,_=>false
def AU (fs gs:List FV)(ps:List Pt)(k:Nat):Bool:=(ps.take k).all (qY fs gs)
def tJ (ps:List Pt)(x:Int):Bool:=ps.any fun p=>decide (p.1=x)
def uC (fs:List FV)(ps:List Pt)(is:List Nat):Bool:=is.all fun i=>tJ ps (aP fs i).id
def lW (fs gs:List FV)(lim:Int)(ps:List Pt):Bool×Int:=if jc fs gs lim=true then (iO ps&&(ps.all (qY fs gs)&&uC fs ps (aS fs lim fs.length)),0) else (false,1)
def pq (ps:List Pt)(x:Int):Option Value:=if tJ ps x=true then some (.bool true) else none
theorem Ia {ps:List Pt}{k:Nat}(h:k<ps.length):pq (ps.take (k+1))=JI (pq (ps.take k)) (ai ps k).1 (.bool true):=by
 funext x
 unfold pq JI tJ
 rw[List.take_add_one,fB h,List.any_append]
 by_cases e:x=(ai ps k).1
 ·subst e
  simp
 ·have:¬ (ai ps k).1=x:=fun h=>e h.symm
  rw[if_neg e]
  have h2:decide ((ai ps k).1=x)=false:=decide_eq_false this
  simp only[Option.toList,List.any_cons,List.any_nil,h2,Bool.or_false]
theorem Le {fs gs:List FV}{ps:List Pt}{k:Nat}(h:k<ps.length)(hk:AU fs gs ps k=true):AU fs gs ps (k+1)=qY fs gs (ai ps k):=by
 unfold AU at *
 rw[List.take_add_one,fB h,List.all_append,hk]
 simp
theorem Y8 {fs gs:List FV}{ps:List Pt}{k:Nat}(h:k<ps.length)(hp:qY fs gs (ai ps k)=false):ps.all (qY fs gs)=false:=by
 rw[List.all_eq_false]
 exact⟨ai ps k,List.mem_of_getElem? (fB h),by rw[hp];simp⟩
theorem AV {fs:List FV}{x:Int}{f:FV}(h:findF fs x=some f):f∈fs:=List.mem_of_find?_eq_some h
theorem Gy (fs:List FV)(x:Int):zh fs x=(findF fs x).map FV.val:=rfl
def zF:FV:={ id:=0,kind:=0,x:=0,y:=0,dn:=0,aA:=none,ac:=0,area:=[],dep:=0,sym:=0,sA:=none,sc:=0,secs:=[] }
theorem Gt (fs:List FV)(x:Int):∃f u,Hid ((zh fs x).getD (.agg #[.int .i64 0,.int .i64 0,.int .i64 0,.int .i64 0,.int .i64 0,.slice none 0 0,.int .i64 0,.int .i64 0,.slice none 0 0])=f.val/\(zh fs x).isSome=u)/\((u=false/\findF fs x=none)\/(u=true/\findF fs x=some f)):=by
 cases h:findF fs x with
 | none=>exact⟨zF,false,hide (by rw[Gy,h];exact⟨rfl,rfl⟩),.inl ⟨rfl,rfl⟩⟩
 | some f=>exact⟨f,true,hide (by rw[Gy,h];exact⟨rfl,rfl⟩),.inr ⟨rfl,rfl⟩⟩
theorem EO {F:Fence}{n:Nat}{P:Program}{fn:Func}{R:Ending->World->Prop}{e:Exit}{a:Act}{w:World}(h:∀W0,w=W0->bodyPostM F n P fn R e a W0):bodyPostM F n P fn R e a w:=h _ rfl
theorem yw {wr:World}{b:Nat}{T T':TypeId}{v v' u u':Value}(h0:Boxed wr b T v)(h1:Boxed wr (b+1) T' v'):Boxed ((wr.setCell ⟨b,0,none⟩ u).setCell ⟨b+1,0,none⟩ u') b T u/\Boxed ((wr.setCell ⟨b,0,none⟩ u).setCell ⟨b+1,0,none⟩ u') (b+1) T' u':=⟨(h0.set _).other (by simp) _,(h1.other (by simp) _).set _⟩
theorem zW {w wr:World}{u u':Value}(h:Grew w wr):Below w.heap.size w ((wr.setCell ⟨w.heap.size,0,none⟩ u).setCell ⟨w.heap.size+1,0,none⟩ u'):=(h.below.setCell (p:=⟨w.heap.size,0,none⟩) (by simp) _).setCell (p:=⟨w.heap.size+1,0,none⟩) (by simp) _
theorem fP.own {β:Type}{B mb n:Nat}{m:Int->Option Value}(h:mb<B):OwnFrom B (fun (_:β) W=>fP W mb n m):=by
 intro s W W' row hs hg hr
 exact hs.block (hg.block mb hs.lt (fun e=>by have:=(hr _ e.symm).1;omega))
theorem aah (fs gs:List FV)(ps:List Pt)(A A' Ap:Option Addr)(c c' cp:Nat)(lim:Int)(w:World)(hr:mM w w.heap.size A fs)(hr':mM w w.heap.size A' gs)(hrp:Rd w w.heap.size 2 Ap (ps.map dU))(hc:fs.length<=100000000000000)(hc':gs.length<=100000000000000)(hcp:ps.length<=100000000000000) :
  Calls Tryz.prog 18 #[.slice A fs.length c,.slice A' gs.length c',.int .i64 lim,.slice Ap ps.length cp] w (aB w (.tuple #[.bool (lW fs gs lim ps).1,.int .i64 (lW fs gs lim ps).2])):=by
 have hm:=aQ
 have hmm:=@run_makeMap Tryz.prog
 obtain⟨u,hu⟩:∃u,jc fs gs lim=u:=⟨_,rfl⟩
 obtain⟨v,hv⟩:∃u,iO ps=u:=⟨_,rfl⟩
 have k1:=hide (fun W (hg:Grew w W)=>Qv fs gs A A' c c' lim u W (hr.up hg) (hr'.up hg) (by omega) (by omega) hu)
 have k2:=hide (fun W (hg:Grew w W)=>Q9 ps Ap cp v W (hrp.up hg) (by omega) hv)
 obtain⟨res,hres⟩:∃r,lW fs gs lim ps=r:=⟨_,rfl⟩
 rw[hres]
 unfold lW at hres
 rw[hu,hv] at hres
 have hcase:u=false\/(u=true/\v=false)\/(u=true/\v=true):=by cases u<;>cases v<;>simp
 rcases hcase with rfl|⟨rfl,rfl⟩|⟨rfl,rfl⟩
 ·rw[if_neg (by simp)] at hres
  subst hres
  clear hu hv hr hr' hrp hmm
  go_enter Tryz.func18,Tryz.ntmps18
  go_wp2_with (first|(go_at_call 52;with_reducible refine aT (k1.out _ gw) fun _ _=>?_;dsimp only)|(go_at_call 53;with_reducible refine aT (k2.out _ gw) fun _ _=>?_;dsimp only))
  refine bodyPost_ret (v:=.tuple #[.bool false,.int .i64 1]) (by simp[results,Tryz.results18,go_sem]) rfl ?_
  exact aB.mk' rfl gw
 ·rw[if_pos rfl,Bool.false_and] at hres
  subst hres
  clear hu hv hr hr' hrp hmm
  go_enter Tryz.func18,Tryz.ntmps18
  go_wp2_with (first|(go_at_call 52;with_reducible refine aT (k1.out _ gw) fun _ _=>?_;dsimp only)|(go_at_call 53;with_reducible refine aT (k2.out _ gw) fun _ _=>?_;dsimp only))
  refine bodyPost_ret (v:=.tuple #[.bool false,.int .i64 0]) (by simp[results,Tryz.results18,go_sem]) rfl ?_
  exact aB.mk' rfl gw
 ·rw[if_pos rfl,Bool.true_and] at hres
  obtain⟨hl,hl',_⟩:=wE hu
  have hlen:=iY hl
  have hlen':=iY hl'
  have HR:=hide hr
  have HR':=hide hr'
  have HRP:=hide hrp
  have HV:=hide hv
  have hpl:=Yw hv
  have HL:=hide hl
  have oU:=hide hres
  have ki:=hide (fun W (hg:Grew w W)=>PT fs A c W (hr.up hg) hl)
  have ki':=hide (fun W (hg:Grew w W)=>PT gs A' c' W (hr'.up hg) hl')
  clear hu hv hr hr' hrp hl hl' hres
  refine (callsIn_wide (n:=9)).1 ?_
  refine callsIn_of_wp_marks Tryz.func18 rfl trivial ?_ rfl
  simp only[Tryz.ntmps18,List.size_toArray,List.length_cons,List.length_nil,Nat.reduceAdd,Nat.reduceSub,Array.replicate_succ,Array.replicate_zero,List.push_toArray,List.append_toArray,List.nil_append,List.cons_append]
  gi_wp2_with fail
  refine⟨trivial,?_⟩
  refine (callsIn_wide.2 (k1.out _ gw)).mono ?_
  rintro e w1 ⟨rfl,hg1⟩
  have hb1:Bx w1 w.heap.size [.cells #[.bool false] 4 (0,0),.cells #[.int .i64 0] 31 (0,0)]:=by refine (Bx.lH _ w).1.grew ?_;simp only[List.foldl];exact Grew.trans gw hg1
  have Hb1:=hide hb1
  have iI:Hid (Grew w w1):=hide (Grew.trans gw hg1)
  clear hb1 hg1 k1
  dsimp only
  gi_wp2_with fail
  refine⟨trivial,?_⟩
  refine (callsIn_wide.2 (k2.out _ (iI.out.trans gw))).mono ?_
  rintro e w2 ⟨rfl,hg2⟩
  have HG2:Hid (Grew w1 w2):=hide (Grew.trans gw hg2)
  clear hg2 k2
  dsimp only
  gi_wp2_with fail
  refine⟨trivial,?_⟩
  refine (callsIn_wide.2 (ki.out _ (iI.out.trans (HG2.out.trans gw)))).mono ?_
  rintro e w3 ⟨b1,rfl,lb1,aeb,hg3⟩
  have rU:Hid (Grew w2 w3):=hide (Grew.trans gw hg3)
  have HM1:=hide aeb
  have hs1:=iI.out.below.size
  have hs2:=HG2.out.below.size
  have ai4:w.heap.size+2<=b1:=by
   have h1:=ax (Hb1.out 1 _ rfl)
   have h2:w2.heap.size<=b1:=by simpa[bQ] using lb1
   omega
  clear hg3 aeb lb1 ki
  dsimp only
  gi_wp2_with fail
  refine⟨trivial,?_⟩
  refine (callsIn_wide.2 (ki'.out _ (iI.out.trans (HG2.out.trans (rU.out.trans gw))))).mono ?_
  rintro e w4 ⟨b2,rfl,lb2,aea,hg4⟩
  have sW:Hid (Grew w3 w4):=hide (Grew.trans gw hg4)
  have HM2:=hide aea
  have hs3:=rU.out.below.size
  have ai3:w.heap.size+2<=b2:=by
   have h1:=ax (Hb1.out 1 _ rfl)
   have h2:w3.heap.size<=b2:=by simpa[bQ] using lb2
   omega
  clear hg4 aea lb2 ki'
  dsimp only
  gi_wp2_with fail
  refine dJ ?_
  intro a0 Wn ha hW
  have Dt:Hid (Grew w4 Wn):=hide (by rw[<-hW];exact gw)
  have HMn:Hid (fP Wn w4.heap.size 0 (pq (ps.take 0))):=hide (by rw[<-hW];exact (fP.made w4).up gw)
  have HYn:Hid (Boxed Wn (w4.heap.size+1) 116 (.map (some w4.heap.size))):=hide (by rw[<-hW];exact az _ _ _ (by simp))
  have hsn:Wn.heap.size=w4.heap.size+2:=by rw[<-hW];simp
  have HW4:Hid (Grew w w4):=hide (iI.out.trans (HG2.out.trans (rU.out.trans sW.out)))
  have HB4:Hid (Bx w4 w.heap.size [.cells #[.bool false] 4 (0,0),.cells #[.int .i64 0] 31 (0,0)]):=hide (Hb1.out.grew (HG2.out.trans (rU.out.trans sW.out)))
  have TL:Hid (fP w4 b1 fs.length (zh fs)):=hide (HM1.out.up sW.out)
  have hs4:=sW.out.below.size
  have ajc:w.heap.size+2<=w4.heap.size:=by have:=TL.out.lt;omega
  clear hW HM1 hs1 hs2 hs3 iI HG2 rU sW Hb1 hmm
  subst ha
  gi_loopw [35] (fun i wr=>∃k:Nat,k<=ps.length/\i=.int .i64 k/\uN (AU fs gs ps k=true)/\Grew w4 wr/\fP wr w4.heap.size k (pq (ps.take k))/\Boxed wr (w4.heap.size+1) 116 (.map (some w4.heap.size))) (fun i _=>ps.length-(intOf i).toNat)
  case atStart=>exact⟨0,by omega,rfl,rfl,Dt.out,HMn.out,HYn.out⟩
  case round =>
   obtain⟨k,hk,rfl,hall,hg,hmp,hbx⟩:=hrel
   have HA:=hide hall.stop
   have HG:=hide hg
   have HM:=hide hmp
   have HY:=hide hbx
   have HWr:Hid (Grew w wr):=hide (HW4.out.trans hg)
   have b0:Boxed wr w.heap.size 4 (.bool false):=dM (HB4.out.box 0 rfl) hg
   have b1':Boxed wr (w.heap.size+1) 31 (.int .i64 0):=dM (HB4.out.box 1 rfl) hg
   have c0:=b0.cell
   have f0:=b0.frozen
   have c1:=b1'.cell
   have f1:=b1'.frozen
   have l0:=b0.lt
   have l1:=b1'.lt
   have lY:=hbx.lt
   have lY0:w4.heap.size<wr.heap.size:=by omega
   have HB0:=hide b0
   have HB1:=hide b1'
   clear hall hg hmp hbx b0 b1'
   by_cases hlt:k<ps.length
   ·obtain⟨b,off,hA,hb,h0,h1⟩:=rD (HRP.out.up HWr.out) (fB hlt)
    have hix:=aJ (cap:=cp) Tryz.underlying34 Tryz.sizeOf118 hA.out hlt
    have hgs:=Le hlt HA.out
    have hps:=Ia hlt
    have hod:=D6 HV.out hlt
    have hpos:=Py HV.out hlt
    have hno:qY fs gs (ai ps k)=false->res=(false,0):=fun e=>by
     rw[<-oU.out,Y8 hlt e]
     rfl
    obtain⟨p,hp⟩:∃p,ai ps k=p:=⟨_,rfl⟩
    rw[hp] at h0 h1 hgs hps hod hpos hno
    obtain⟨p1,p2⟩:=p
    dsimp only at h0 h1 hps hod hpos
    have VX:(Lit.int .i64 p1).wf=true:=wf64 (by omega)
    have YV:(Lit.int .i64 p2).wf=true:=wf64 (by omega)
    obtain⟨f,u,MB,hfu⟩:∃f u,Hid ((zh fs p1).getD (.agg #[.int .i64 0,.int .i64 0,.int .i64 0,.int .i64 0,.int .i64 0,.slice none 0 0,.int .i64 0,.int .i64 0,.slice none 0 0])=f.val/\(zh fs p1).isSome=u)/\((u=false/\findF fs p1=none)\/(u=true/\findF fs p1=some f)):=Gt fs p1
    obtain⟨g,v,HL2,hgv⟩:∃f u,Hid ((zh gs p2).getD (.agg #[.int .i64 0,.int .i64 0,.int .i64 0,.int .i64 0,.int .i64 0,.slice none 0 0,.int .i64 0,.int .i64 0,.slice none 0 0])=f.val/\(zh gs p2).isSome=u)/\((u=false/\findF gs p2=none)\/(u=true/\findF gs p2=some f)):=Gt gs p2
    have MH:=hide hps
    have HGS:=hide hgs
    clear hA hps hgs hp hod hpos
    have hcase:(u=false/\res=(false,0))\/(u=true/\v=false/\res=(false,0))\/(u=true/\v=true/\findF fs p1=some f/\findF gs p2=some g):=by
     rcases hfu with⟨rfl,e⟩|⟨rfl,e⟩
     ·exact .inl ⟨rfl,hno (by unfold qY;rw[e])⟩
     ·rcases hgv with⟨rfl,e'⟩|⟨rfl,e'⟩
      ·exact .inr (.inl ⟨rfl,rfl,hno (by unfold qY;rw[e,e'])⟩)
      ·exact .inr (.inr ⟨rfl,rfl,e,e'⟩)
    clear hfu hgv
    rcases hcase with⟨rfl,hr⟩|⟨rfl,rfl,hr⟩|⟨rfl,rfl,hf,hg⟩
    ·subst hr
     clear hno
     gi_wp2_with (first|(gi_at_lookup;(refine iJ rfl (.tmp 40) (.tmp 42) 114 rfl 65 Tryz.underlying114 (Tryz.zeroValue65 _) rfl ((TL.out.up HG.out).up gw) _ rfl VX ?_;rw[MB.out.1,MB.out.2]))|(gi_at_lookup;refine iJ rfl (.tmp 47) (.tmp 49) 114 rfl 65 Tryz.underlying114 (Tryz.zeroValue65 _) rfl ((HM2.out.up HG.out).up gw) _ rfl YV ?_;rw[HL2.out.1,HL2.out.2]))
     refine⟨trivial,?_⟩
     gi_wp2_with fail
     refine EO ?_
     intro W0 hW
     have JE:Grew ((wr.setCell ⟨w.heap.size,0,none⟩ (.bool false)).setCell ⟨w.heap.size+1,0,none⟩ (.int .i64 0)) W0:=by rw[<-hW];exact gw
     obtain⟨hx,hy⟩:=yw (u:=.bool false) (u':=.int .i64 0) HB0.out HB1.out
     have e3:=(dM hx JE).cell
     have e4:=(dM hy JE).cell
     have mJ:=zW (u:=.bool false) (u':=.int .i64 0) HWr.out
     clear hW
     refine⟨.tuple #[.bool false,.int .i64 0],by simp[results,Tryz.results18,go_sem,e3,e4],?_⟩
     exact aB.mk' rfl (Grew.of_below (mJ.trans (JE.below.mono mJ.size)))
    ·subst hr
     clear hno
     gi_wp2_with (first|(gi_at_lookup;(refine iJ rfl (.tmp 40) (.tmp 42) 114 rfl 65 Tryz.underlying114 (Tryz.zeroValue65 _) rfl ((TL.out.up HG.out).up gw) _ rfl VX ?_;rw[MB.out.1,MB.out.2]))|(gi_at_lookup;refine iJ rfl (.tmp 47) (.tmp 49) 114 rfl 65 Tryz.underlying114 (Tryz.zeroValue65 _) rfl ((HM2.out.up HG.out).up gw) _ rfl YV ?_;rw[HL2.out.1,HL2.out.2]))
     refine⟨trivial,?_⟩
     gi_wp2_with fail
     refine EO ?_
     intro W0 hW
     have JE:Grew ((wr.setCell ⟨w.heap.size,0,none⟩ (.bool false)).setCell ⟨w.heap.size+1,0,none⟩ (.int .i64 0)) W0:=by rw[<-hW];exact gw
     obtain⟨hx,hy⟩:=yw (u:=.bool false) (u':=.int .i64 0) HB0.out HB1.out
     have e3:=(dM hx JE).cell
     have e4:=(dM hy JE).cell
     have mJ:=zW (u:=.bool false) (u':=.int .i64 0) HWr.out
     clear hW
     refine⟨.tuple #[.bool false,.int .i64 0],by simp[results,Tryz.results18,go_sem,e3,e4],?_⟩
     exact aB.mk' rfl (Grew.of_below (mJ.trans (JE.below.mono mJ.size)))
    ·have hfm:=AV hf
     have hgm:=AV hg
     obtain⟨o,ho⟩:∃o,iT f g=o:=⟨_,rfl⟩
     have km:=hide (fun W (hg:Grew w W)=>aaE f g o W ((HR.out.each _ hfm).up hg) ((HR'.out.each _ hgm).up hg) ho)
     have hgp:qY fs gs (p1,p2)=o:=by
      unfold qY
      rw[hf,hg]
      exact ho
     have HGP:=hide hgp
     have G6:=hide hno
     have c5:=HY.out.cell
     clear hf hg hfm hgm ho hgp hno
     cases o
     ·have hr:=G6.out HGP.out
      subst hr
      gi_wp2_with (first|(gi_at_lookup;(refine iJ rfl (.tmp 40) (.tmp 42) 114 rfl 65 Tryz.underlying114 (Tryz.zeroValue65 _) rfl ((TL.out.up HG.out).up gw) _ rfl VX ?_;rw[MB.out.1,MB.out.2]))|(gi_at_lookup;refine iJ rfl (.tmp 47) (.tmp 49) 114 rfl 65 Tryz.underlying114 (Tryz.zeroValue65 _) rfl ((HM2.out.up HG.out).up gw) _ rfl YV ?_;rw[HL2.out.1,HL2.out.2]))
      refine⟨trivial,?_⟩
      refine (callsIn_wide.2 (km.out _ (HWr.out.trans gw))).mono ?_
      rintro e w' ⟨rfl,⟨n5,Fh⟩,rfl⟩
      dsimp only
      gi_wp2_with fail
      refine EO ?_
      intro W0 hW
      have JE:Grew ((wr.setCell ⟨w.heap.size,0,none⟩ (.bool false)).setCell ⟨w.heap.size+1,0,none⟩ (.int .i64 0)) W0:=by rw[<-hW];exact gw
      obtain⟨hx,hy⟩:=yw (u:=.bool false) (u':=.int .i64 0) HB0.out HB1.out
      have e3:=(dM hx JE).cell
      have e4:=(dM hy JE).cell
      have mJ:=zW (u:=.bool false) (u':=.int .i64 0) HWr.out
      clear hW
      refine⟨.tuple #[.bool false,.int .i64 0],by simp[results,Tryz.results18,go_sem,e3,e4],?_⟩
      exact aB.mk' rfl (Grew.of_below (mJ.trans (JE.below.mono mJ.size)))
     ·gi_wp2_with (first|(gi_at_lookup;(refine iJ rfl (.tmp 40) (.tmp 42) 114 rfl 65 Tryz.underlying114 (Tryz.zeroValue65 _) rfl ((TL.out.up HG.out).up gw) _ rfl VX ?_;rw[MB.out.1,MB.out.2]))|(gi_at_lookup;refine iJ rfl (.tmp 47) (.tmp 49) 114 rfl 65 Tryz.underlying114 (Tryz.zeroValue65 _) rfl ((HM2.out.up HG.out).up gw) _ rfl YV ?_;rw[HL2.out.1,HL2.out.2]))
      refine⟨trivial,?_⟩
      refine (callsIn_wide.2 (km.out _ (HWr.out.trans gw))).mono ?_
      rintro e w' ⟨rfl,⟨n5,Fh⟩,rfl⟩
      dsimp only
      gi_wp2_with (gi_at_mapUpdate;refine jD.stop ?_)
      refine jD.go ?_
      refine Dw (by rfl) (.tmp 66) (.tmp 68) (.const (.bool true)) 116 (by rfl) 4 Tryz.underlying116 (by rfl) (HM.out.up gw) (by unfold maxLen;omega) p1 (.bool true) (by rfl) (by rfl) VX ?_
      intro w5 hm5 hg5
      have uX:Hid (Grew w4 w5):=hide (Grew.of_below ((HG.out.trans gw).below.grown hg5 (HG.out.trans gw).below.size (fun q hq=>by injection hq with hq;omega)))
      have HM5:Hid (fP w5 w4.heap.size (k+1) (pq (ps.take (k+1)))):=hide (by rw[MH.out];exact hm5)
      have HY5:Hid (Boxed w5 (w4.heap.size+1) 116 (.map (some w4.heap.size))):=hide ((hg5.block _ (ax (dM HY.out gw)) (fun e=>by injection e with e;omega)).trans (dM HY.out gw))
      clear hm5 hg5
      gi_wp2_with fail
      go_roundw
      case rel=>exact⟨k+1,by omega,by go_num,show AU fs gs ps (k+1)=true from HGS.out.trans HGP.out,uX.out,HM5.out,HY5.out⟩
      case measure=>simp[intOf];omega
   ·obtain rfl:k=ps.length:=by omega
    have hall:ps.all (qY fs gs)=true:=by
     have:=HA.out
     unfold AU at this
     rwa [List.take_length] at this
    have hrr:(uC fs ps (aS fs lim fs.length),(0:Int))=res:=by rw[<-oU.out,hall,Bool.true_and]
    have HRR:=hide hrr
    rw[List.take_length] at HM
    clear hall hrr oU TL HM2 Dt HMn HYn hsn
    gi_wp2_with fail
    refine⟨trivial,?_⟩
    refine (callsIn_wide.2 (ED _ _ _ _ _)).mono ?_
    rintro e w'' ⟨rfl,rfl⟩
    dsimp only
    gi_wp2_with fail
    refine dJ ?_
    intro a0 W0 ha hW
    have Wj:Grew wr W0:=by rw[<-hW];exact gw
    have hg0:Grew w W0:=HWr.out.trans Wj
    have hb0:Bx W0 w.heap.size [.cells #[.bool false] 4 (0,0),.cells #[.int .i64 0] 31 (0,0)]:=HB4.out.grew (HG.out.trans Wj)
    have hyb:Bx W0 (w4.heap.size+1) [.cells #[.map (some w4.heap.size)] 116 (0,0)]:=fun i o ho=>by
     cases i with
     | zero=>injection ho with ho;rw[<-ho];exact dM HY.out Wj
     | succ i=>simp at ho
    have af2:fP W0 w4.heap.size ps.length (pq ps):=HM.out.up Wj
    have hk0:W0.heap[wr.heap.size]?=some (.cells #[.slice A fs.length c,.int .i64 lim] 84 (0,0)):=by rw[<-hW];exact az _ _ _ (by simp)
    have hszW:wr.heap.size<W0.heap.size:=ax hk0
    clear hW Wj c0 f0 c1 f1
    obtain⟨Z,hZ⟩:∃Z,wr.heap.size=Z:=⟨_,rfl⟩
    rw[hZ] at hk0 hszW
    have ha2:a0.eval (.tmp 73)=.func (.func 70) #[] #[.pointer (some ⟨Z,0,none⟩)]:=by rw[<-ha,<-hZ];simp[Act.eval]
    refine wpIn_rangeFunc_ownH (n:=9) rfl (by omega) (gf:=70) (lb:=#[.pointer (some ⟨Z,0,none⟩)]) ha2 trivial (enters_of Tryz.func70 (by kernel_rfl) rfl)
     (EC 8 w.heap.size (fun _ _=>False) fs A c Z lim W0 (fun b T hb=>hb.elim) (fun T hb=>hb) (fun b hb hM=>hM) hk0 (HR.out.row.grew hg0 (Nat.le_refl _)) (by omega) (by omega))
     (fun h k=>h.trans k) iC.bk (Below.refl _ _) (fun _=>rfl)
     (fun pre W=>(((Below w.heap.size w W/\Bx W w.heap.size _)/\Bx W (w4.heap.size+1) _)/\fP W w4.heap.size ps.length (pq ps))/\∀i∈pre,tJ ps (aP fs (gI i)).id=true)
     (fun e pre W=>((Below w.heap.size w W/\Boxed W w.heap.size 4 (.bool false))/\Boxed W (w.heap.size+1) 31 (.int .i64 0))/\(e=.ret/\uC fs ps (aS fs lim fs.length)=false))
     (OwnFrom.and (OwnFrom.and (OwnFrom.and (OwnFrom.and (ownFrom_below (Nat.le_refl _) hg0.below.size) (Bx.own (by simp;omega))) (Bx.own (by simp;omega))) (fP.own (by omega))) (ownFrom_pure _))
     (fun q=>OwnFrom.and (OwnFrom.and (OwnFrom.and (ownFrom_below (Nat.le_refl _) hg0.below.size) (fun s X Y row h1 hg hr=>Own.from (boxed_own (β:=Unit) _ _ (fun _=>_)) _ () X Y row h1 hg hr)) (fun s X Y row h1 hg hr=>Own.from (boxed_own (β:=Unit) _ _ (fun _=>_)) _ () X Y row h1 hg hr)) (ownFrom_pure _))
     ⟨⟨⟨⟨hg0.below,hb0⟩,hyb⟩,af2⟩,fun i hi=>by cases hi⟩
     (fun x a' W=>∃B,W.heap[B]?=some (.cells #[.int .i64 (aP fs (gI x)).id,.int .i64 (aP fs (gI x)).kind,.int .i64 (aP fs (gI x)).x,.int .i64 (aP fs (gI x)).y,.int .i64 (aP fs (gI x)).dn,.slice (aP fs (gI x)).aA (aP fs (gI x)).area.length (aP fs (gI x)).ac,.int .i64 (aP fs (gI x)).dep,.int .i64 (aP fs (gI x)).sym,.slice (aP fs (gI x)).sA (aP fs (gI x)).secs.length (aP fs (gI x)).sc] 65 (0,0))/\a'={ tmps:=(a0.tmps.setIfInBounds 74 (aP fs (gI x)).val).setIfInBounds 19 (.pointer (some ⟨B,0,none⟩)),defers:=[] })
     (fun x a'=>by
      rintro s X Y row ⟨B,h1,h2⟩ hg hr
      exact⟨B,fE h1 hg (fun r e=>(hr r e).2),h2⟩)
     ?assign ?body ?done ?stop
    case assign =>
     rintro l pre x W K ⟨⟨⟨⟨hB,hb⟩,hd⟩,hmp⟩,hp⟩ hK
     rw[show Oc fs lim x=#[(aP fs (gI x)).val] from rfl,L6]
     subst ha
     simp only[List.setIfInBounds_toArray,List.set_cons_succ,List.set_cons_zero] at hK ⊢
     have vT:=hide hK
     clear hK
     gi_wp2_with fail
     have hgg:Grew W (W.alloc (.cells #[.int .i64 (aP fs (gI x)).id,.int .i64 (aP fs (gI x)).kind,.int .i64 (aP fs (gI x)).x,.int .i64 (aP fs (gI x)).y,.int .i64 (aP fs (gI x)).dn,.slice (aP fs (gI x)).aA (aP fs (gI x)).area.length (aP fs (gI x)).ac,.int .i64 (aP fs (gI x)).dep,.int .i64 (aP fs (gI x)).sym,.slice (aP fs (gI x)).sA (aP fs (gI x)).secs.length (aP fs (gI x)).sc] 65)):=gw
     exact vT.out _ _ (hgg.aV _) (iC.grew hgg) ⟨⟨⟨⟨hB.trans (hgg.below.mono hB.size),hb.grew hgg⟩,hd.grew hgg⟩,hmp.up hgg⟩,hp⟩ ⟨W.heap.size,heap_alloc_new _ _,rfl⟩
    case body =>
     rintro l pre x a' W hl2 _ ⟨⟨⟨⟨hB,hb⟩,hd⟩,hmp⟩,hp⟩ ⟨B,hx,rfl⟩ hlt
     subst ha
     have hid:=yV HL.out (k:=gI x) x.1.2
     have hwf:(Lit.int .i64 (aP fs (gI x)).id).wf=true:=wf64 (by omega)
     obtain⟨o,ho⟩:∃o,tJ ps (aP fs (gI x)).id=o:=⟨_,rfl⟩
     have hlk:(Instr.lookup 116 (.map (some w4.heap.size)) (.int .i64 (aP fs (gI x)).id) false).run Tryz.prog W=.ok (.bool o) W:=by
      have h1:=fP.look1 hmp Tryz.underlying116 (Tryz.zeroValue4 W) hwf
      rw[h1]
      unfold pq
      rw[ho]
      cases o<;>rfl
     have hnext:o=true->∀i∈pre++[x],tJ ps (aP fs (gI i)).id=true:=fun h0 i hi=>by
      rcases List.mem_append.1 hi with h|h
      ·exact hp i h
      ·obtain rfl:=List.mem_singleton.1 h
       rw[ho];exact h0
     have hstop:o=false->uC fs ps (aS fs lim fs.length)=false:=fun h0=>by
      unfold uC
      rw[List.all_eq_false]
      exact⟨gI x,List.mem_filter.2 ⟨List.mem_range.2 x.1.2,x.2⟩,by rw[ho,h0];simp⟩
     have kF:=hide hnext
     have qC:=hide hstop
     clear hnext hstop hp ho hid hwf
     obtain⟨f,hf⟩:∃f,aP fs (gI x)=f:=⟨_,rfl⟩
     rw[hf] at hx hlk
     simp only[hf]
     have c0:W.cell? ⟨w.heap.size,0,none⟩=_:=(hb.box 0 rfl).cell
     have f0:W.frozen? ⟨w.heap.size,0,none⟩=_:=(hb.box 0 rfl).frozen
     have c1:W.cell? ⟨w.heap.size+1,0,none⟩=_:=(hb.box 1 rfl).cell
     have f1:W.frozen? ⟨w.heap.size+1,0,none⟩=_:=(hb.box 1 rfl).frozen
     have c5:W.cell? ⟨w4.heap.size+1,0,none⟩=_:=(hd.box 0 rfl).cell
     have d0:W.cell? ⟨B,0,none⟩=some _:=ag hx 0
     have lB:=ax hx
     have l0:=(hb.box 0 rfl).lt
     have l1:=(hb.box 1 rfl).lt
     have l5:=(hd.box 0 rfl).lt
     have HB:=hide hB
     have Hb:=hide hb
     have Hd:=hide hd
     have HMP:=hide hmp
     clear hB hb hd hmp hx hf hlt
     try dsimp only
     simp only[List.setIfInBounds_toArray,List.set_cons_succ,List.set_cons_zero]
     cases o
     ·have HS2:=hide (qC.out rfl)
      clear kF qC
      gi_wp2_with fail
      have hx1:Boxed W w.heap.size 4 (.bool false):=Hb.out.box 0 rfl
      have hx2:Boxed W (w.heap.size+1) 31 (.int .i64 0):=Hb.out.box 1 rfl
      obtain⟨y1,y2⟩:=yw (u:=.bool false) (u':=.int .i64 0) hx1 hx2
      exact⟨(KeepsFrom.setCell _ _ _ _).trans (KeepsFrom.setCell _ _ _ _),⟨⟨(HB.out.setCell (p:=⟨w.heap.size,0,none⟩) (by simp) _).setCell (p:=⟨w.heap.size+1,0,none⟩) (by simp) _,y1⟩,y2⟩,rfl,HS2.out⟩
     ·have Ci:=hide (kF.out rfl)
      clear kF qC
      gi_wp2_with fail
      have hgg:Grew W W:=Grew.refl _
      exact⟨hgg.aV _,iC.grew hgg,⟨⟨⟨⟨HB.out,Hb.out⟩,Hd.out⟩,HMP.out⟩,Ci.out⟩⟩
    case done =>
     subst ha
     rintro D xs W hD hS ⟨⟨⟨⟨hB,hb⟩,hd⟩,hmp⟩,hp⟩ hK
     have hcov:uC fs ps (aS fs lim fs.length)=true:=by
      unfold uC
      rw[List.all_eq_true]
      intro i hi
      rw[<-hS] at hi
      obtain⟨j,hj,rfl⟩:=List.mem_map.1 hi
      exact hp j hj
     have hrr:=HRR.out
     rw[hcov] at hrr
     subst hrr
     have b1':Boxed W w.heap.size 4 (.bool false):=hb.box 0 rfl
     have b2':Boxed W (w.heap.size+1) 31 (.int .i64 0):=hb.box 1 rfl
     have c1:=b1'.cell
     have f1:=b1'.frozen
     have c2:=b2'.cell
     have f2:=b2'.frozen
     have l1:=b1'.lt
     have l2:=b2'.lt
     have HB:=hide hB
     have HX1:=hide b1'
     have HX2:=hide b2'
     clear hB hb hd hmp hS hp hcov b1' b2' HRR
     gi_wp2_with fail
     have hK2:=(KeepsOthers.setCell (W.setCell ⟨w.heap.size,0,none⟩ (.bool true)) ⟨w.heap.size+1,0,none⟩ (.int .i64 0)).same D _ ((KeepsOthers.setCell W ⟨w.heap.size,0,none⟩ (.bool true)).same D _ hK rfl) rfl
     refine⟨by simp,.inl ⟨_,_,rfl,run_takeDeferred hK2,?_⟩⟩
     have hb5:=((HB.out.setCell (p:=⟨w.heap.size,0,none⟩) (by simp) (.bool true)).setCell (p:=⟨w.heap.size+1,0,none⟩) (by simp) (.int .i64 0)).trans (belowK_b (w:=w) (Nat.le_refl _) _ D _ (.deferred none) (by omega) hK2 rfl rfl)
     obtain⟨y1,y2⟩:=yw (u:=.bool true) (u':=.int .i64 0) HX1.out HX2.out
     have e3:=(aU (W:=(W.setCell ⟨w.heap.size,0,none⟩ (.bool true)).setCell ⟨w.heap.size+1,0,none⟩ (.int .i64 0)) (D:=D) (i:=0) (o:=.deferred none) (b:=w.heap.size) (by omega)).trans y1.cell
     have e4:=(aU (W:=(W.setCell ⟨w.heap.size,0,none⟩ (.bool true)).setCell ⟨w.heap.size+1,0,none⟩ (.int .i64 0)) (D:=D) (i:=0) (o:=.deferred none) (b:=w.heap.size+1) (by omega)).trans y2.cell
     refine⟨.tuple #[.bool true,.int .i64 0],by simp[results,Tryz.results18,go_sem,e3,e4],?_⟩
     exact aB.mk' rfl (Grew.of_below hb5)
    case stop =>
     subst ha
     rintro D e pre W hD ⟨k,hk,hr⟩ ⟨⟨⟨hB,hb1⟩,hb2⟩,rfl,hun⟩ hK
     have hrr:=HRR.out
     rw[hun] at hrr
     subst hrr
     have c1:=hb1.cell
     have c2:=hb2.cell
     have HB:=hide hB
     clear hB hb1 hb2 hr hk HRR hun
     gi_wp2_with fail
     refine⟨by simp,.inl ⟨_,_,rfl,run_takeDeferred hK,?_⟩⟩
     have hb5:=HB.out.trans (belowK_b (w:=w) (Nat.le_refl _) _ D _ (.deferred none) (by omega) hK rfl rfl)
     have e3:=(aU (W:=W) (D:=D) (i:=0) (o:=.deferred none) (b:=w.heap.size) (by omega)).trans c1
     have e4:=(aU (W:=W) (D:=D) (i:=0) (o:=.deferred none) (b:=w.heap.size+1) (by omega)).trans c2
     refine⟨.tuple #[.bool false,.int .i64 0],by simp[results,Tryz.results18,go_sem,e3,e4],?_⟩
     exact aB.mk' rfl (Grew.of_below hb5)
end Go.Proofs.YtlkgjmnjhifehaaGreat
