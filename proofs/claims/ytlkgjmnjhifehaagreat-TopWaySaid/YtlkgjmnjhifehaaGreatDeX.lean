
import Derived.Test.YtlkgjmnjhifehaaGreatGeT
import Derived.Test.YtlkgjmnjhifehaaGreatApp
import Derived.Test.YtlkgjmnjhifehaaGreatProg
import Derived.Maps.OwnIn
import Derived.Test.YtlkgjmnjhifehaaGreatRuI
import Derived.Test.YtlkgjmnjhifehaaGreatPoa
import Derived.Test.YtlkgjmnjhifehaaGreatRuZ
set_option linter.unusedSimpArgs false
set_option linter.unusedVariables false
set_option maxHeartbeats 4000000
set_option maxRecDepth 100000
namespace Go.Proofs.YtlkgjmnjhifehaaGreat
open Go.RowKit Go.Sort
attribute [local go_sem] dA steadyUpon
attribute [local go_sem ↓] bU bI aX aW aV aU aT
attribute [local go_sem] bH aK aJ size_grow tape_grow cell?_grow' aF aB grow_grow bW aY dR cO bY bK aN cZ aZ bZ bJ
attribute [local irreducible] wpSteady
def sS (n:Int):Bool:=decide (1<=n/\n<=100000)
theorem GK (n:Int)(r:Bool)(w:World)(h:sS n=r):Calls Tryz.prog 57 #[.int .i64 n] w (aC w (.bool r)):=by
 subst h
 go_enter Tryz.func57,Tryz.ntmps57
 go_wp2
 all_goals go_ret
 all_goals refine aC.mk' (dU ?_) gw
 all_goals (rw[Bool.eq_iff_iff];simp[sS];try omega)
def lH (fs gs:List FV)(n:Int):Bool:=bQ fs&&(bQ gs&&sS n)
theorem ZW (fs gs:List FV)(A A':Option Addr)(c c':Nat)(n:Int)(r:Bool)(w:World)(hr:nI w w.heap.size A fs)(hr':nI w w.heap.size A' gs)(hc:fs.length<=100000000000000)(hc':gs.length<=100000000000000)(h:lH fs gs n=r) :
  Calls Tryz.prog 52 #[.slice A fs.length c,.slice A' gs.length c',.int .i64 n] w (aC w (.bool r)):=by
 have hm:=aP
 obtain⟨u,hu⟩:∃u,bQ fs=u:=⟨_,rfl⟩
 obtain⟨v,hv⟩:∃u,bQ gs=u:=⟨_,rfl⟩
 obtain⟨l,hl⟩:∃u,sS n=u:=⟨_,rfl⟩
 have k1:=hide (fun W (hg:Grew w W)=>iO fs A c u W (hr.up hg) hc hu)
 have k2:=hide (fun W (hg:Grew w W)=>iO gs A' c' v W (hr'.up hg) hc' hv)
 have k3:=hide (fun W=>GK n l W hl)
 unfold lH at h
 rw[hu,hv,hl] at h
 clear hu hv hl hr hr'
 have hcase:(u=false/\r=false)\/(u=true/\v=false/\r=false)\/(u=true/\v=true/\l=r):=by
  rw[<-h]
  cases u<;>cases v<;>simp
 clear h
 rcases hcase with⟨rfl,rfl⟩|⟨rfl,rfl,rfl⟩|⟨rfl,rfl,rfl⟩
 all_goals
  go_enter Tryz.func52,Tryz.ntmps52
  go_wp2_with (first|((go_at_call 37;first|with_reducible refine (k1.out _ gw).mono ?_|with_reducible refine (k2.out _ gw).mono ?_);rintro e w' ⟨rfl,⟨_,_⟩,rfl⟩;dsimp only)|(go_at_call 57;with_reducible refine aQ (k3.out _) fun _ _=>?_;dsimp only))
  go_ret
  exact aC.mk' rfl gw
def countB (f:FV)(n:Int):Bool:=decide (f.kind=4)||decide (f.dep<n)
theorem LM (A:Option Addr)(m c:Nat)(n:Int)(f:FV)(r:Bool)(w:World)(h:countB f n=r) :
  Calls Tryz.prog 71 #[.agg #[.slice A m c,.int .i64 n],f.val] w (aC w (.bool r)):=by
 unfold countB at h
 obtain⟨id,kind,x,y,dC,aA,ac,area,dep,sym,sA,sc,secs⟩:=f
 unfold FV.val
 dsimp only at *
 generalize area.length=na at *
 generalize secs.length=ns at *
 by_cases h4:kind=4
 ·subst h4
  obtain rfl:r=true:=by rw[<-h];rfl
  clear h
  go_enter Tryz.func71,Tryz.ntmps71
  go_wp2_with fail
  go_ret
  exact aC.mk' rfl gw
 ·rw[decide_eq_false h4,Bool.false_or] at h
  subst h
  have h5:(kind==4)=false:=by simpa using h4
  go_enter Tryz.func71,Tryz.ntmps71
  go_wp2_with fail
  go_ret
  first|exact aC.mk' rfl gw|exact aC.mk' (by simp[h4]) gw
def KH (ps:List Pt)(k:Nat):Int:=if k=0 then 0 else (ah ps (k-1)).1
def PK (ps:List Pt)(k:Nat):Bool:=decide (KH ps k<(ah ps k).1/\(ah ps k).1<=100000/\1<=(ah ps k).2/\(ah ps k).2<=100000)
def Kq (ps:List Pt)(k:Nat):Bool:=(List.range k).all (PK ps)
def pM (ps:List Pt):Bool:=Kq ps ps.length
theorem adY (f g:FV)(r:Bool)(w:World)(hf:f.rd w w.heap.size)(hg:g.rd w w.heap.size)(h:je f g=r) :
  Calls Tryz.prog 55 #[f.val,g.val] w (aC w (.bool r)):=by
 have hm:=aP
 unfold je at h
 obtain⟨⟨n,e⟩,hn⟩:∃u,sG f g=u:=⟨_,rfl⟩
 have k1:=hide (fun W (hgr:Grew w W)=>XQ f g (n,e) W (hf.up hgr) (hg.up hgr) hn)
 rw[hn] at h
 dsimp only at h k1
 clear hn hf hg
 have hcase:e=0\/(e==0)=false:=by by_cases h:e=0<;>simp[h]
 rcases hcase with rfl|h1
 ·obtain rfl:n=r:=by rw[<-h];simp
  clear h
  go_enter Tryz.func55,Tryz.ntmps55
  go_wp2_with (go_at_call 86;with_reducible refine aQ (k1.out _ gw) fun _ _=>?_;dsimp only)
  go_ret
  exact aC.mk' rfl gw
 ·rw[h1] at h
  subst h
  go_enter Tryz.func55,Tryz.ntmps55
  go_wp2_with (go_at_call 86;with_reducible refine aQ (k1.out _ gw) fun _ _=>?_;dsimp only)
  go_ret
  exact aC.mk' (by rfl) gw
def oL (f:FV)(gs:List FV):Int:=match gs.find? (je f) with|some g=>g.id|none=>0
def ahL (f:FV)(gs:List FV)(e:Ending):Prop:=(e=.returned (.int .i64 (-1))/\∀g,g∈gs->je f g=false)\/(∃k:Nat,k<gs.length/\e=.returned (.int .i64 k)/\je f (bF gs k)=true/\∀j,j<k->je f (bF gs j)=false)
theorem Wx (f:FV)(gs:List FV)(A:Option Addr)(c:Nat)(w:World)(hf:f.rd w w.heap.size)(hr:nI w w.heap.size A gs)(hc:gs.length<=100000000000000) :
  Calls Tryz.prog 97 #[.slice A gs.length c,.func (.func 55) #[f.val] #[]] w fun e w'=>ahL f gs e/\Grew w w':=by
 have hm:=aP
 have HR:=hide hr
 have HF:=hide hf
 clear hr hf
 go_enter Tryz.func97,Tryz.ntmps97
 go_wp2_with fail
 go_loopw [8] (fun i wr=>∃k:Nat,k<=gs.length/\i=.int .i64 k/\Grew w wr/\wW (∀j,j<k->je f (bF gs j)=false)) (fun i _=>gs.length-(intOf i).toNat)
 case atStart=>exact⟨0,by omega,rfl,gw,fun j hj=>by omega⟩
 case round =>
  obtain⟨k,hk,rfl,hg,hall⟩:=hrel
  have HG:=hide hg
  have HA:=hide hall.stop
  clear hg hall
  by_cases hlt:k<gs.length
  ·obtain⟨b,off,hA,hb,fc⟩:=yD (HR.out.up HG.out) hlt
   have hgr:=HR.out.each _ (dQ hlt)
   have hix:=aO (cap:=c) Tryz.underlying23 Tryz.sizeOf65 hA.out hlt
   obtain⟨o,ho⟩:∃o,je f (bF gs k)=o:=⟨_,rfl⟩
   have k1:=hide (fun W (hg:Grew w W)=>adY f (bF gs k) o W (HF.out.up hg) (hgr.up hg) ho)
   have HO:=hide ho
   obtain⟨c0,c1,c2,c3,c4,c5,c6,c7,c8⟩:=fc
   have HID:Hid (∃g,bF gs k=g):=hide ⟨_,rfl⟩
   clear ho hA hgr
   cases o
   ·go_wp2_with (go_at_call 55;with_reducible refine aQ (k1.out _ (HG.out.trans gw)) fun _ _=>?_;dsimp only)
    go_roundw
    case rel=>exact⟨k+1,by omega,by go_num,HG.out.trans gw,show ∀j,j<k+1->je f (bF gs j)=false from (fun j hj=>by
     by_cases e:j=k
     ·rw[e];exact HO.out
     ·exact HA.out j (by omega))⟩
    case measure=>simp[intOf];omega
   ·go_wp2_with (go_at_call 55;with_reducible refine aQ (k1.out _ (HG.out.trans gw)) fun _ _=>?_;dsimp only)
    go_ret
    exact⟨.inr ⟨k,by omega,rfl,HO.out,HA.out⟩,HG.out.trans gw⟩
  ·obtain rfl:k=gs.length:=by omega
   go_wp2_with fail
   go_ret
   refine⟨.inl ⟨rfl,fun g hg=>?_⟩,HG.out⟩
   obtain⟨j,hj,e⟩:=List.getElem_of_mem hg
   have:=HA.out j hj
   have a:=dI hj
   rw[List.getElem?_eq_getElem hj,e] at a
   injection a with a
   rw[a]
   exact this
theorem TD {f:FV}{gs:List FV}(h:∀g,g∈gs->je f g=false):oL f gs=0:=by
 unfold oL
 rw[List.find?_eq_none.2 (fun g hg=>by rw[h g hg];simp)]
theorem Qe {f:FV}:∀ {gs:List FV} {k:Nat},k<gs.length->je f (bF gs k)=true->(∀j,j<k->je f (bF gs j)=false)->gs.find? (je f)=some (bF gs k)
 | [],k,h,_,_=>by simp at h
 | g::gs,0,_,h1,_=>by
  have e:bF (g::gs) 0=g:=rfl
  rw[e] at h1 ⊢
  rw[List.find?_cons,h1]
 | g::gs,k+1,h,h1,h2=>by
  have e:∀j,bF (g::gs) (j+1)=bF gs j:=fun j=>by unfold bF;rw[List.getD_cons_succ]
  have h0:je f g=false:=h2 0 (by omega)
  rw[e] at h1 ⊢
  rw[List.find?_cons,h0]
  exact Qe (by simpa using h) h1 (fun j hj=>by rw[<-e];exact h2 (j+1) (by omega))
theorem agY (f:FV)(gs:List FV)(A:Option Addr)(c:Nat)(r:Int)(w:World)(hf:f.rd w w.heap.size)(hr:nI w w.heap.size A gs)(hc:gs.length<=100000000000000)(h:oL f gs=r) :
  Calls Tryz.prog 72 #[f.val,.slice A gs.length c] w (aC w (.int .i64 r)):=by
 have hm:=aP
 have k1:=hide (fun W (hg:Grew w W)=>Wx f gs A c W (hf.up hg) (hr.up hg) hc)
 have HR:=hide hr
 have HH:=hide h
 clear hf hr h
 go_enter Tryz.func72,Tryz.ntmps72
 go_wp2_with fail
 refine (k1.out _ gw).mono ?_
 rintro e w' ⟨h,⟨⟨n1,os1⟩,rfl⟩⟩
 rcases h with⟨rfl,hn⟩|⟨k,hk,rfl,h1,h2⟩
 ·obtain rfl:r=0:=by rw[<-HH.out];exact TD hn
  clear hn
  dsimp only
  go_wp2_with fail
  go_ret
  exact aC.mk' rfl gw
 ·have hid:(bF gs k).id=r:=by
   rw[<-HH.out]
   unfold oL
   rw[Qe hk h1 h2]
  obtain⟨b,off,hA,hb,fc⟩:=yD HR.out hk
  have hix:=aO (cap:=c) Tryz.underlying23 Tryz.sizeOf65 hA.out hk
  have c0:=fc.c0
  rw[hid] at c0
  have hk0:0<=(k:Int):=by omega
  clear h1 h2 hid fc hA
  dsimp only
  go_wp2_with fail
  go_ret
  exact aC.mk' rfl gw
def kU (fs:List FV)(n:Int)(p:Pt):Int×Int:=if (bQ fs&&(sS n&&p.ok))=true then (min (kY fs p fs.length) n,0) else (0,1)
theorem MO (fs:List FV)(A:Option Addr)(c:Nat)(n:Int)(p:Pt)(r:Int×Int)(w:World)(hr:nI w w.heap.size A fs)(hc:fs.length<=100000000000000)(h:kU fs n p=r) :
  Calls Tryz.prog 22 #[.slice A fs.length c,.int .i64 n,pt p.1 p.2] w (aC w (.tuple #[.int .i64 r.1,.int .i64 r.2])):=by
 have hm:=aP
 obtain⟨u,hu⟩:∃u,bQ fs=u:=⟨_,rfl⟩
 obtain⟨l,hl⟩:∃u,sS n=u:=⟨_,rfl⟩
 obtain⟨v,hv⟩:∃u,p.ok=u:=⟨_,rfl⟩
 have k1:=hide (fun W (hg:Grew w W)=>iO fs A c u W (hr.up hg) hc hu)
 have k2:=hide (fun W=>dP p.1 p.2 v W hv)
 have k3:=hide (fun W=>GK n l W hl)
 have k4:=hide (fun W (hg:Grew w W)=>QG fs A c p _ W (hr.up hg) hc rfl)
 unfold xk at k4
 unfold kU at h
 rw[hu,hv] at k4
 rw[hu,hv,hl] at h
 clear hu hv hl hr
 generalize kY fs p fs.length=m at *
 obtain⟨p1,p2⟩:=p
 dsimp only at *
 have hcase:u=false\/(u=true/\l=false)\/(u=true/\l=true/\v=false)\/(u=true/\l=true/\v=true):=by cases u<;>cases l<;>cases v<;>simp
 rcases hcase with rfl|⟨rfl,rfl⟩|⟨rfl,rfl,rfl⟩|⟨rfl,rfl,rfl⟩
 ·rw[if_neg (by simp)] at h
  subst h
  go_enter Tryz.func22,Tryz.ntmps22
  go_wp2_with (first|(go_at_call 37;with_reducible refine aQ (k1.out _ gw) fun _ _=>?_;dsimp only)|(go_at_call 49;with_reducible refine aQ (k2.out _) fun _ _=>?_;dsimp only)|(go_at_call 57;with_reducible refine aQ (k3.out _) fun _ _=>?_;dsimp only))
  go_ret2
  exact aC.mk' rfl gw
 ·rw[if_neg (by simp)] at h
  subst h
  go_enter Tryz.func22,Tryz.ntmps22
  go_wp2_with (first|(go_at_call 37;with_reducible refine aQ (k1.out _ gw) fun _ _=>?_;dsimp only)|(go_at_call 49;with_reducible refine aQ (k2.out _) fun _ _=>?_;dsimp only)|(go_at_call 57;with_reducible refine aQ (k3.out _) fun _ _=>?_;dsimp only))
  go_ret2
  exact aC.mk' rfl gw
 ·rw[if_neg (by simp)] at h
  subst h
  go_enter Tryz.func22,Tryz.ntmps22
  go_wp2_with (first|(go_at_call 37;with_reducible refine aQ (k1.out _ gw) fun _ _=>?_;dsimp only)|(go_at_call 49;with_reducible refine aQ (k2.out _) fun _ _=>?_;dsimp only)|(go_at_call 57;with_reducible refine aQ (k3.out _) fun _ _=>?_;dsimp only))
  go_ret2
  exact aC.mk' rfl gw
 ·rw[if_pos (by rfl)] at h
  subst h
  rw[if_pos (by rfl)] at k4
  dsimp only at k4
  go_enter Tryz.func22,Tryz.ntmps22
  go_wp2_with (first|(go_at_call 37;with_reducible refine aQ (k1.out _ gw) fun _ _=>?_;dsimp only)|(go_at_call 49;with_reducible refine aQ (k2.out _) fun _ _=>?_;dsimp only)|(go_at_call 57;with_reducible refine aQ (k3.out _) fun _ _=>?_;dsimp only)|(go_at_call 15;with_reducible refine aQ (k4.out _ gw) fun _ _=>?_;dsimp only))
  all_goals go_ret2
  all_goals exact aC.mk' (yR (l9 (by omega)) rfl) gw
end Go.Proofs.YtlkgjmnjhifehaaGreat
set_option maxHeartbeats 4000000
set_option maxRecDepth 100000
namespace Go.Proofs.YtlkgjmnjhifehaaGreat
open Go.RowKit Go.Sort
open Go.Maps (Keyed)
def aeJ (v:Value):Option (DataW Value×List MemPlace):=some (.held v,[])
def tH (w:World)(b n:Nat)(m:Int->Option Value):Prop:=∃D,w.ownsMap Tryz.prog 3 aeJ b n D/\Maps.IsMap D/\∀x,(Lit.int .i64 x).wf=true->Maps.has D (.int .i64 x)=(m x).isSome/\∀z,D.atKey (.int .i64 x) z=match m x with|some v=>.held v|none=>z
theorem tH.lt {w:World}{b n:Nat}{m:Int->Option Value}(h:tH w b n m):b<w.heap.size:=let ⟨_,h,_⟩:=h;h.lt
theorem tH.kept {w w':World}{b n:Nat}{m:Int->Option Value}{row:Option Nat}(h:tH w b n m)(hg:w.grownBy w' row)(hne:some b≠row):tH w' b n m :=
 let ⟨D,h1,h2⟩:=h;⟨D,h1.kept hg hne,h2⟩
theorem tH.block {w w':World}{b n:Nat}{m:Int->Option Value}(h:tH w b n m)(hb:w'.heap[b]?=w.heap[b]?):tH w' b n m:=by
 obtain⟨D,⟨es,clock,h0,h1⟩,h2⟩:=h
 exact⟨D,⟨es,clock,hb.trans h0,h1⟩,h2⟩
theorem tH.up {w w':World}{b n:Nat}{m:Int->Option Value}(h:tH w b n m)(hg:Grew w w'):tH w' b n m:=h.block (hg.below.block b h.lt)
section
variable {w:World} {ops:Array Oper} {rest:List Oper} {o:Oper} {a:Act} {Q:Exit->Act->World->Prop} {b n:Nat} {mp:Int->Option Value}
variable {F:Fence} {nF:Nat}
end
end Go.Proofs.YtlkgjmnjhifehaaGreat
namespace Go.Proofs.YtlkgjmnjhifehaaGreat
open Go.RowKit Go.Sort Go.Lib
attribute [local go_sem] dA steadyUpon
attribute [local go_sem ↓] bU bI aX aW aV aU aT
attribute [local go_sem] bH aK aJ size_grow tape_grow cell?_grow' aF aB grow_grow bW aY dR cO bY bK aN cZ aZ bZ bJ
attribute [local irreducible] wpSteady
abbrev CI (fs:List FV)(lim:Int):Type:={ i:Fin fs.length // countB (bF fs i.1) lim=true }
def kJ {fs:List FV}{lim:Int}(x:CI fs lim):Nat:=x.1.1
def SV (fs:List FV)(lim:Int)(x:CI fs lim):Array Value:=#[(bF fs (kJ x)).val]
def bD (fs:List FV)(lim:Int)(k:Nat):List Nat:=(List.range k).filter fun i=>countB (bF fs i) lim
theorem zN {fs:List FV}{lim:Int}{k:Nat}(h:countB (bF fs k) lim=true):bD fs lim (k+1)=bD fs lim k++[k]:=by
 unfold bD
 rw[List.range_succ,List.filter_append]
 simp[h]
theorem Ce {fs:List FV}{lim:Int}{k:Nat}(h:countB (bF fs k) lim=false):bD fs lim (k+1)=bD fs lim k:=by
 unfold bD
 rw[List.range_succ,List.filter_append]
 simp[h]
theorem uJ (fs:List FV)(lim:Int)(k:Nat):(bD fs lim k).length<=k:=by
 have:=List.length_filter_le (fun i=>countB (bF fs i) lim) (List.range k)
 rw[List.length_range] at this
 exact this
theorem LC (A:Option Addr)(n c:Nat)(lim:Int)(w:World) :
  Calls Tryz.prog 33 #[.agg #[.slice A n c,.int .i64 lim]] w fun e w'=>e=.returned (.func (.func 70) #[] #[.pointer (some ⟨w.heap.size,0,none⟩)])/\w.alloc (.cells #[.slice A n c,.int .i64 lim] 84 (0,0))=w':=by
 go_enter Tryz.func33,Tryz.ntmps33
 go_wp2
 go_ret
 exact⟨rfl,rfl⟩
theorem Ou (n K:Nat)(M:Nat->TypeId->Prop)(fs:List FV)(A:Option Addr)(c B:Nat)(lim:Int)(w:World)(hM1:∀b T,M b T->K<=b)(hM2:∀T,¬ M B T)(hM3:∀b,w.heap.size<=b->¬ M b 65)(hB:w.heap[B]?=some (.cells #[.slice A fs.length c,.int .i64 lim] 84 (0,0)))
  (hr:Rd w K 9 A (fs.map FV.cells)) (hK:K<=w.heap.size) (hl:fs.length<=1000000) :
  SeqStopsK Fence.wide n Tryz.prog 70 #[.pointer (some ⟨B,0,none⟩)] (SV fs lim) (gW M) (fun xs=>xs.map kJ=bD fs lim fs.length) (fun pre=>∃k,k<=fs.length/\pre.map kJ=bD fs lim k) fs.length w:=by
 intro l J Jx W hW hJ hJx hY h0
 have hm:=aP
 have HR:=hide ((hr.below (hW.mono hK)))
 have hBW:W.heap[B]?=some _:=(hW.block B (au hB)).trans hB
 have c0:W.cell? ⟨B,0,none⟩=some (.slice A fs.length c):=by rw[ag hBW];rfl
 have c1:W.cell? ⟨B,1,none⟩=some (.int .i64 lim):=by rw[ag hBW];rfl
 have hMK:Hid (∀b T,b<K->¬ M b T):=hide (fun b T hb h=>by have:=hM1 b T h;omega)
 have SK:Hid (∀T,¬ M B T):=hide hM2
 have hMW:Hid (∀b,w.heap.size<=b->¬ M b 65):=hide hM3
 have hKW:K<=W.heap.size:=Nat.le_trans hK hW.size
 have Sm:=hW.size
 have HJ:=hide hJ
 have HJx:=hide hJx
 have HY:=hide hY
 have H0:=hide h0
 clear hr hM1 hM2 hM3 hJ hJx hY h0 hW hB hBW
 refine callsIn_of_wp Tryz.func70 rfl trivial ?_ rfl
 simp only[Tryz.ntmps70,List.size_toArray,List.length_cons,List.length_nil,Nat.reduceAdd,Nat.reduceSub,Array.replicate_succ,Array.replicate_zero,List.push_toArray,List.append_toArray,List.nil_append,List.cons_append]
 gi_wp2_with fail
 gi_loopw [8] (fun i wr=>∃ (k:Nat) (pre:List (CI fs lim)),k<=fs.length/\i=.int .i64 k/\pre.map kJ=bD fs lim k/\J pre wr/\Rd wr K 9 A (fs.map FV.cells)/\wr.cell? ⟨B,0,none⟩=some (.slice A fs.length c)/\wr.cell? ⟨B,1,none⟩=some (.int .i64 lim)/\W.heap.size<=wr.heap.size) (fun i _=>fs.length-(intOf i).toNat)
 case atStart=>exact⟨0,[],by omega,rfl,rfl,H0.out,HR.out,c0,c1,Nat.le_refl _⟩
 case round =>
  obtain⟨k,pre,hk,rfl,hpre,hJ,hrd,hcB,SH,hsz⟩:=hrel
  have lV:pre.length<=k:=by have:=congrArg List.length hpre;have:=uJ fs lim k;simp only[List.length_map] at *;omega
  have kW:=hide hpre
  clear c0 c1 hpre
  by_cases hlt:k<fs.length
  ·obtain⟨b,off,hA,hb,fc⟩:=rowAt hrd hlt
   have hix:=aO (cap:=c) Tryz.underlying23 Tryz.sizeOf65 hA.out hlt
   have hbw:b<wr.heap.size:=by omega
   have hBw:B<wr.heap.size:=cell_lt hcB
   obtain⟨u,hu⟩:∃u,countB (bF fs k) lim=u:=⟨_,rfl⟩
   have HU:=hide hu
   obtain⟨f,hf⟩:∃f,bF fs k=f:=⟨_,rfl⟩
   have HFK:=hide hf
   rw[hf] at fc hu
   have kc:=hide (fun W'=>LM A fs.length c lim f u W' hu)
   obtain⟨d0,d1,d2,d3,d4,d5,d6,d7,d8⟩:=fc
   have FZ:=hide hrd
   have O1:=hide lV
   have CG:=hide hJ
   have HcB:=hide hcB
   have JC:=hide SH
   clear hrd hJ lV hf hu hA
   gi_wp2_with fail
   refine⟨trivial,(fun h=>by cases h),?_⟩
   refine (callsIn_wide.2 (kc.out _)).mono ?_
   rintro e w' ⟨rfl,⟨n1,os1⟩,rfl⟩
   dsimp only
   have hg5:Grew wr (grow (dr (wr.alloc (.cells #[.int .i64 f.id,.int .i64 f.kind,.int .i64 f.x,.int .i64 f.y,.int .i64 f.dC,.slice f.aA f.area.length f.ac,.int .i64 f.dep,.int .i64 f.sym,.slice f.sA f.secs.length f.sc] 65)) n1) os1):=gw
   cases u
   ·have F7:Hid (pre.map kJ=bD fs lim (k+1)):=hide (by rw[kW.out,Ce HU.out])
    have EC:=HJ.out _ _ _ none CG.out (hg5.grownBy none) (fun r hr=>by cases hr)
    have HJ5:=hide EC
    have vC:=hide hg5
    clear EC hg5
    gi_wp2_with fail
    refine⟨(fun _ h=>by cases h),?_⟩
    gi_wp2_with fail
    go_roundw
    case rel=>exact⟨k+1,pre,by omega,by go_num,F7.out,HJ5.out,FZ.out.grew vC.out (by omega),(vC.out.below.cell (p:=⟨B,0,none⟩) hBw).trans HcB.out,(vC.out.below.cell (p:=⟨B,1,none⟩) hBw).trans JC.out,by have:=vC.out.below.size;omega⟩
    case measure=>simp[intOf];omega
   ·have hk0:=HU.out
    have F7:Hid ((pre++[(⟨⟨k,hlt⟩,hk0⟩:CI fs lim)]).map kJ=bD fs lim (k+1)):=hide (by rw[List.map_append,kW.out,zN hk0];rfl)
    have henc:SV fs lim ⟨⟨k,hlt⟩,hk0⟩=#[f.val]:=by
     show #[(bF fs k).val]=#[f.val]
     rw[HFK.out]
    have EC:=HJ.out _ _ _ none CG.out (hg5.grownBy none) (fun r hr=>by cases hr)
    obtain⟨Zp,YB,ZX,ZR,hy1,hR1⟩:=HY.out _ ⟨⟨k,hlt⟩,hk0⟩ _ EC (by have:=O1.out;omega)
    rw[henc] at hy1
    have HR1:=hide hR1
    have HR5:=hide (FZ.out.grew hg5 (by omega))
    have HC5:=hide ((hg5.below.cell (p:=⟨B,0,none⟩) hBw).trans HcB.out)
    have HC6:=hide ((hg5.below.cell (p:=⟨B,1,none⟩) hBw).trans JC.out)
    have hbx:(grow (dr (wr.alloc (.cells #[.int .i64 f.id,.int .i64 f.kind,.int .i64 f.x,.int .i64 f.y,.int .i64 f.dC,.slice f.aA f.area.length f.ac,.int .i64 f.dep,.int .i64 f.sym,.slice f.sA f.secs.length f.sc] 65)) n1) os1).heap[wr.heap.size]?=some (.cells #[.int .i64 f.id,.int .i64 f.kind,.int .i64 f.x,.int .i64 f.y,.int .i64 f.dC,.slice f.aA f.area.length f.ac,.int .i64 f.dep,.int .i64 f.sym,.slice f.sA f.secs.length f.sc] 65 (0,0)):=(heap_grow_old _ _ (by simp[bU])).trans (az _ _ _ rfl)
    have mF:=hide hbx
    clear hbx
    clear hR1 hg5 EC henc
    gi_wp2_with fail
    refine⟨(fun h=>by cases h),?_⟩
    refine HR1.out.mono ?_
    rintro e W3 (⟨rfl,hJ3,hk3⟩|⟨rfl,hJx3⟩)
    ·have xM:=HR5.out.kpm hk3 hMK.out
     have hc3:=hk3.cell SK.out HC5.out
     have hc4:=hk3.cell SK.out HC6.out
     have MM:=hide hJ3
     have Ua:=hide hc3
     have HC4:=hide hc4
     have JE:=hide xM
     have hb3:=au (hk3 _ _ _ _ (hMW.out _ (by omega)) mF.out)
     have hB3:=cell_lt hc3
     clear hc3 hc4 xM hk3 hy1 d0 d1 d2 d3 d4 d5 d6 d7 d8
     clear hJ3
     dsimp only
     gi_wp2_with fail
     go_roundw
     case rel=>exact⟨k+1,_,by omega,by go_num,F7.out,MM.out,JE.out,Ua.out,HC4.out,by omega⟩
     case measure=>simp[intOf];omega
    ·have HX:=hide hJx3
     clear hJx3 hy1
     dsimp only
     gi_wp2_with fail
     refine bodyPost_ret (results_none rfl _ _ _) rfl ?_
     exact⟨⟨_,rfl⟩,.inr ⟨_,⟨k+1,by omega,F7.out⟩,HX.out⟩⟩
  ·obtain rfl:k=fs.length:=by omega
   gi_wp2
   go_end0
   exact⟨⟨_,rfl⟩,.inl ⟨_,kW.out,hJ⟩⟩
set_option maxHeartbeats 8000000
set_option maxRecDepth 100000
def acO (ms:List Pt)(p:Pt):Option Pt:=(ms.find? fun q=>decide (q.1=p.2)).map fun q=>(p.1,q.2)
def Z8 (ps ms:List Pt)(k:Nat):List Pt:=(ps.take k).filterMap (acO ms)
def Z9 (ps ms:List Pt):List Pt×Int:=if (pM ps&&pM ms)=true then (Z8 ps ms ps.length,0) else ([],1)
def acQ (w:World)(r:List Pt×Int)(e:Ending)(w':World):Prop:=∃A' c',e=.returned (.tuple #[.slice A' r.1.length c',.int .i64 r.2])/\Rd w' w'.heap.size 2 A' (r.1.map dY)/\Grew w w'
theorem adP:(Tryz.prog.info? 118).map (fun i=>(i.zero,i.size,i.bytes))=some (some (.agg #[.int .i64 0,.int .i64 0]),2,16):=by kernel_rfl
theorem Io:∃i,Tryz.prog.info? 118=some i/\i.zero=some (.agg #[.int .i64 0,.int .i64 0])/\i.size=2/\i.bytes=16:=by
 have h:=adP
 cases hi:Tryz.prog.info? 118 with
 | none=>rw[hi] at h;simp at h
 | some i =>
  rw[hi] at h
  simp at h
  exact⟨i,rfl,h.1,h.2.1,h.2.2⟩
attribute [local go_sem] Oper.semAt_some
theorem EI {W w1:World}{n₀ n₁ B:Nat}{t e:TypeId}{size:Nat}{v v':Value}{k m:Nat}{xs ys:List Value}
  (hv:Boxed W B t v) (hte:t≠e) (hrow:W.ownsRow n₀ e size v k xs) (hB:n₁<=B) (h01:n₁<=n₀) (hown':w1.ownsRow n₀ e size v' m ys) (hgrow:W.grownBy w1 v.ownBlock) :
  Boxed w1 B t v/\Boxed (w1.setCell ⟨B,0,none⟩ v') B t v'/\(w1.setCell ⟨B,0,none⟩ v').ownsRow n₀ e size v' m ys/\KeepsOthers W (w1.setCell ⟨B,0,none⟩ v')/\Below n₁ W (w1.setCell ⟨B,0,none⟩ v') /\
  ∀b cs T fr,b≠B->¬ (n₀<=b/\T=e)->W.heap[b]?=some (.cells cs T fr)->(w1.setCell ⟨B,0,none⟩ v').heap[b]?=some (.cells cs T fr):=by
 have hv1:Boxed w1 B t v:=hv.kept hgrow (hv.not_row hte hrow)
 have hcell:∀j o,v.ownBlock=some j->W.heap[j]?=some o->∃cs,o=.cells cs e (0,0):=by
  intro j o ej hj
  rcases hrow.2 with⟨rfl,_⟩|⟨g,cap,cur,rfl,_,hgb,_⟩
  ·simp[Value.ownBlock] at ej
  ·obtain rfl:g=j:=by simpa[Value.ownBlock] using ej
   rw[hgb] at hj
   injection hj with hj
   exact⟨cur,hj.symm⟩
 refine⟨hv1,hv1.set v',hown'.kept (grownBy_setCell' w1 B v') (.inr (hv1.not_row hte hown').symm),?_,?_,?_⟩
 ·refine (KeepsOthers.of_grownBy hgrow fun j o ej hj=>?_).trans (KeepsOthers.setCell _ _ _)
  obtain⟨cs,rfl⟩:=hcell j o ej hj
  rfl
 ·refine ((Below.refl n₁ W).grown hgrow (Nat.le_trans hB (Nat.le_of_lt hv.lt)) fun j ej=>?_).setCell (p:=⟨B,0,none⟩) hB v'
  exact Nat.le_trans h01 (hrow.lt j ej).1
 ·intro b cs T fr hbB hT hb
  rw[Below.heap_setCell w1 ⟨B,0,none⟩ v' b hbB,hgrow.block b (au hb) ?_]
  ·exact hb
  ·intro e2
   refine hT ⟨(hrow.lt b e2.symm).1,?_⟩
   obtain⟨cs',h⟩:=hcell b _ e2.symm hb
   injection h
def vI (fs gs:List FV)(is:List Nat):List Int:=(is.filter fun i=>decide (oL (bF fs i) gs=0)).map fun i=>(bF fs i).id
def DJ (fs gs:List FV)(lim:Int):List Int×Int:=if lH fs gs lim=true then (vI fs gs (bD fs lim fs.length),0) else ([],1)
def ag4 (Z R:Nat)(U:TypeId)(b:Nat)(T:TypeId):Prop:=b=Z\/(R<=b/\T=U)
theorem L6 {fs gs:List FV}{lim:Int}(h:lH fs gs lim=true):bQ fs=true/\bQ gs=true/\sS lim=true:=by
 unfold lH at h
 simpa using h
set_option maxHeartbeats 8000000
set_option maxRecDepth 100000
def oP (fs gs:List FV)(is:List Nat):List Pt:=is.map fun i=>((bF fs i).id,oL (bF fs i) gs)
def kZ (fs gs:List FV)(lim:Int):List Pt×Int:=if lH fs gs lim=true then (if vI fs gs (bD fs lim fs.length)=[] then (oP fs gs (bD fs lim fs.length),0) else ([],19)) else ([],1)
theorem Rw (fs gs:List FV)(is:List Nat)(i:Nat):oP fs gs (is++[i])=oP fs gs is++[((bF fs i).id,oL (bF fs i) gs)]:=by
 unfold oP
 rw[List.map_append]
 rfl
theorem UB {fs gs:List FV}{lim:Int}(x:CI fs lim)(h:oL (bF fs (kJ x)) gs=0):vI fs gs (bD fs lim fs.length)≠[]:=by
 intro e
 have h1:kJ x∈bD fs lim fs.length:=List.mem_filter.2 ⟨List.mem_range.2 x.1.2,x.2⟩
 unfold vI at e
 rw[List.map_eq_nil_iff,List.filter_eq_nil_iff] at e
 exact e _ h1 (by simpa using h)
theorem UC {fs gs:List FV}{is:List Nat}(h:∀i,i∈is->oL (bF fs i) gs≠0):vI fs gs is=[]:=by
 unfold vI
 rw[List.map_eq_nil_iff,List.filter_eq_nil_iff]
 intro i hi
 simpa using h i hi
theorem aah (fs gs:List FV)(A A':Option Addr)(c c':Nat)(lim:Int)(w:World)(hr:nI w w.heap.size A fs)(hr':nI w w.heap.size A' gs)(hc:fs.length<=100000000000)(hc':gs.length<=100000000000) :
  Calls Tryz.prog 34 #[.slice A fs.length c,.slice A' gs.length c',.int .i64 lim] w (acQ w (kZ fs gs lim)):=by
 have hm:=aP
 obtain⟨i0,hi0,hz0,hz1,hz2⟩:=Io
 obtain⟨u,hu⟩:∃u,lH fs gs lim=u:=⟨_,rfl⟩
 have k1:=hide (fun W (hg:Grew w W)=>ZW fs gs A A' c c' lim u W (hr.up hg) (hr'.up hg) (by omega) (by omega) hu)
 have hre:kZ fs gs lim=if u=true then (if vI fs gs (bD fs lim fs.length)=[] then (oP fs gs (bD fs lim fs.length),0) else ([],19)) else ([],1):=by
  unfold kZ
  rw[hu]
 rw[hre]
 cases u
 ·rw[if_neg (by simp)]
  clear hu hr hr' hre
  go_enter Tryz.func34,Tryz.ntmps34
  go_wp2_with (go_at_call 52;with_reducible refine aQ (k1.out _ gw) fun _ _=>?_;dsimp only)
  refine bodyPost_ret (v:=.tuple #[.slice none 0 0,.int .i64 1]) (by simp[results,Tryz.results34,go_sem]) rfl ?_
  exact⟨none,0,rfl,Rd.nil _ _ _ _,gw⟩
 ·rw[if_pos rfl]
  obtain⟨res,hres⟩:∃r,(if vI fs gs (bD fs lim fs.length)=[] then (oP fs gs (bD fs lim fs.length),(0:Int)) else ([],19))=r:=⟨_,rfl⟩
  rw[hres]
  have rW:=hide hres
  obtain⟨hv,hv',hl⟩:=L6 hu
  have hlen:=jU hv
  have HR:=hide hr
  have HR':=hide hr'
  clear hu hr hr' hre hv hv' hl hres
  refine (callsIn_wide (n:=9)).1 ?_
  refine callsIn_of_wp_marks Tryz.func34 rfl trivial ?_ rfl
  simp only[Tryz.ntmps34,List.size_toArray,List.length_cons,List.length_nil,Nat.reduceAdd,Nat.reduceSub,Array.replicate_succ,Array.replicate_zero,List.push_toArray,List.append_toArray,List.nil_append,List.cons_append]
  gi_wp2_with fail
  refine⟨trivial,?_⟩
  refine (callsIn_wide.2 (k1.out _ gw)).mono ?_
  rintro e w' ⟨rfl,hg1⟩
  obtain⟨bx,hbx⟩:∃bx:List Obj,bx=[.cells #[.slice A' gs.length c'] 23 (0,0),.cells #[.slice none 0 0] 34 (0,0),.cells #[.int .i64 0] 31 (0,0)]:=⟨_,rfl⟩
  have hb1:Bx w' w.heap.size bx:=by rw[hbx];refine (Bx.lT _ w).1.grew ?_;simp only[List.foldl];exact Grew.trans gw hg1
  have hw1:Grew w w':=Grew.trans gw hg1
  have hz1':w.heap.size+3<=w'.heap.size:=by
   have:=hb1 2 _ (by rw[hbx];rfl)
   have:=au this
   omega
  clear hg1
  subst hbx
  have Hb1:=hide hb1
  have Hw1:=hide hw1
  clear hb1 hw1 k1
  dsimp only
  gi_wp2_with fail
  refine⟨trivial,?_⟩
  refine (callsIn_wide.2 (LC _ _ _ _ _)).mono ?_
  rintro e w'' ⟨rfl,rfl⟩
  dsimp only
  gi_wp2_with fail
  refine dJ ?_
  intro a0 W0 ha hW
  have uB:Grew w' W0:=by rw[<-hW];exact gw
  have hg0:Grew w W0:=Hw1.out.trans uB
  have hb0:=Hb1.out.grew uB
  have hn0:Boxed W0 w'.heap.size 34 (.slice none 0 0):=by rw[<-hW];exact (heap_alloc_old _ _ (by simp)).trans (heap_alloc_new _ _)
  have hk0:W0.heap[w'.heap.size+1]?=some (.cells #[.slice A fs.length c,.int .i64 lim] 84 (0,0)):=by rw[<-hW];exact az _ _ _ (by simp)
  have hsz:W0.heap.size=w'.heap.size+2:=by rw[<-hW];simp
  clear hW uB
  obtain⟨Z,hZ⟩:∃Z,w'.heap.size=Z:=⟨_,rfl⟩
  rw[hZ] at hn0 hk0 hsz hz1'
  have hdb:Bx W0 (Z+1) [.cells #[.slice A fs.length c,.int .i64 lim] 84 (0,0)]:=fun i o ho=>by
   cases i with
   | zero=>injection ho with ho;rw[<-ho];exact hk0
   | succ i=>simp at ho
  have ha2:a0.eval (.tmp 19)=.func (.func 70) #[] #[.pointer (some ⟨Z+1,0,none⟩)]:=by rw[<-ha,<-hZ];simp[Act.eval]
  refine wpIn_rangeFunc_ownH (n:=9) rfl (by omega) (gf:=70) (lb:=#[.pointer (some ⟨Z+1,0,none⟩)]) ha2 trivial (enters_of Tryz.func70 (by kernel_rfl) rfl)
   (Ou 8 w.heap.size (ag4 Z (Z+2) 118) fs A c (Z+1) lim W0 (fun b T hb=>by rcases hb with rfl|⟨h,_⟩<;>omega) (fun T hb=>by rcases hb with h|⟨h,_⟩<;>omega) (fun b hb hM=>hM.elim (fun h=>by omega) (fun h=>absurd h.2 (by decide))) hk0 (HR.out.row.grew hg0 (Nat.le_refl _)) (by omega) (by omega))
   (fun h k=>h.trans k) gW.bk (Below.refl _ _) (fun _=>rfl)
   (fun pre W=>(((Below w.heap.size w W/\Bx W w.heap.size _)/\Bx W (Z+1) _)/\(∀i∈pre,oL (bF fs (kJ i)) gs≠0))/\∃v,Boxed W Z 34 v/\W.ownsRow (Z+2) 118 2 v (oP fs gs (pre.map kJ)).length ((oP fs gs (pre.map kJ)).flatMap dY)/\True)
   (fun e pre W=>((Below w.heap.size w W/\Boxed W (w.heap.size+1) 34 (.slice none 0 0))/\Boxed W (w.heap.size+2) 31 (.int .i64 19))/\(e=.ret/\vI fs gs (bD fs lim fs.length)≠[]))
   (OwnFrom.and (OwnFrom.and (OwnFrom.and (OwnFrom.and (ownFrom_below (Nat.le_refl _) hg0.below.size) (Bx.own (by simp;omega))) (Bx.own (by simp;omega))) (ownFrom_pure _)) (Own.from (holdsRow_own _ _ _ _ _ (fun pre:List (CI fs lim)=>(oP fs gs (pre.map kJ)).length) (fun pre:List (CI fs lim)=>(oP fs gs (pre.map kJ)).flatMap dY) (fun _ _=>True)) _))
   (fun q=>OwnFrom.and (OwnFrom.and (OwnFrom.and (ownFrom_below (Nat.le_refl _) hg0.below.size) (fun s X Y row h1 hg hr=>Own.from (boxed_own (β:=Unit) _ _ (fun _=>_)) _ () X Y row h1 hg hr)) (fun s X Y row h1 hg hr=>Own.from (boxed_own (β:=Unit) _ _ (fun _=>_)) _ () X Y row h1 hg hr)) (ownFrom_pure _))
   ⟨⟨⟨⟨hg0.below,hb0⟩,hdb⟩,fun i hi=>by cases hi⟩,_,hn0,World.ownsRow_nil _ _ _ _,trivial⟩
   (fun x a' W=>∃B,W.heap[B]?=some (.cells #[.int .i64 (bF fs (kJ x)).id,.int .i64 (bF fs (kJ x)).kind,.int .i64 (bF fs (kJ x)).x,.int .i64 (bF fs (kJ x)).y,.int .i64 (bF fs (kJ x)).dC,.slice (bF fs (kJ x)).aA (bF fs (kJ x)).area.length (bF fs (kJ x)).ac,.int .i64 (bF fs (kJ x)).dep,.int .i64 (bF fs (kJ x)).sym,.slice (bF fs (kJ x)).sA (bF fs (kJ x)).secs.length (bF fs (kJ x)).sc] 65 (0,0))/\B≠Z/\a'={ tmps:=(a0.tmps.setIfInBounds 20 (bF fs (kJ x)).val).setIfInBounds 9 (.pointer (some ⟨B,0,none⟩)),defers:=[] })
   (fun x a'=>by
    rintro s X Y row ⟨B,h1,h2⟩ hg hr
    exact⟨B,fG h1 hg (fun r e=>(hr r e).2),h2⟩)
   ?assign ?body ?done ?stop
  case assign =>
   rintro l pre x W K ⟨⟨⟨⟨hB,hb⟩,hd⟩,hp⟩,v,hn,hown,_⟩ hK
   rw[show SV fs lim x=#[(bF fs (kJ x)).val] from rfl,L9]
   subst ha
   simp only[List.setIfInBounds_toArray,List.set_cons_succ,List.set_cons_zero] at hK ⊢
   have wu:=hide hK
   have hbl:=hn.lt
   clear hK
   gi_wp2_with fail
   exact wu.out _ _ ((KeepsOthers.alloc _ _).from _) (gW.grew (Grew.alloc (Grew.refl _) _)) ⟨⟨⟨⟨hB.alloc hB.size _,hb.grew (Grew.alloc (Grew.refl _) _)⟩,hd.grew (Grew.alloc (Grew.refl _) _)⟩,hp⟩,v,hn.alloc _,hown.alloc _,trivial⟩ ⟨W.heap.size,heap_alloc_new _ _,by omega,rfl⟩
  case body =>
   rintro l pre x a' W hl2 _ ⟨⟨⟨⟨hB,hb⟩,hd⟩,hp⟩,v,hn,hown,_⟩ ⟨B,hx,hBne,rfl⟩ hlt
   subst ha
   have hfm:bF fs (kJ x)∈fs:=dQ x.1.2
   have hsn:=Rw fs gs (pre.map kJ) (kJ x)
   rw[show (pre.map kJ)++[kJ x]=(pre++[x]).map kJ by simp] at hsn
   have hol:(oP fs gs (pre.map kJ)).length<=pre.length:=by unfold oP;simp
   have hpl:pre.length<300:=by omega
   obtain⟨out,hout⟩:∃o,oP fs gs (pre.map kJ)=o:=⟨_,rfl⟩
   rw[hout] at hown hol hsn
   have hfr:=HR.out.each _ hfm
   obtain⟨r,hrb⟩:∃r,oL (bF fs (kJ x)) gs=r:=⟨_,rfl⟩
   rw[hrb] at hsn
   have hnext:r≠0->∀i∈pre++[x],oL (bF fs (kJ i)) gs≠0:=fun hr0 i hi=>by
    rcases List.mem_append.1 hi with h|h
    ·exact hp i h
    ·obtain rfl:=List.mem_singleton.1 h
     rw[hrb];exact hr0
   have hstop:r=0->vI fs gs (bD fs lim fs.length)≠[]:=fun hr0=>UB x (by rw[hrb,hr0])
   have mO:=hide hnext
   have wV:=hide hstop
   clear hnext hstop hp
   have hw2:=Grew.of_below hB
   have kb:=hide (fun W' (hg:Grew W W')=>agY (bF fs (kJ x)) gs A' c' r W' (hfr.up (hw2.trans hg)) (HR'.out.up (hw2.trans hg)) (by omega) hrb)
   obtain⟨f,hf⟩:∃f,bF fs (kJ x)=f:=⟨_,rfl⟩
   rw[hf] at hsn hx kb
   simp only[hf]
   obtain⟨Av,cv,rfl,hcv,hrd⟩:=Rd.iE (f:=dY) ni hown rfl
   have c0:W.cell? ⟨Z,0,none⟩=_:=hn.cell
   have f0:W.frozen? ⟨Z,0,none⟩=_:=hn.frozen
   have c1:W.cell? ⟨w.heap.size,0,none⟩=some (.slice A' gs.length c'):=(hb.box 0 rfl).cell
   have c2:W.cell? ⟨w.heap.size+1,0,none⟩=_:=(hb.box 1 rfl).cell
   have f2:W.frozen? ⟨w.heap.size+1,0,none⟩=_:=(hb.box 1 rfl).frozen
   have c3:W.cell? ⟨w.heap.size+2,0,none⟩=_:=(hb.box 2 rfl).cell
   have f3:W.frozen? ⟨w.heap.size+2,0,none⟩=_:=(hb.box 2 rfl).frozen
   have d0:W.cell? ⟨B,0,none⟩=some _:=ag hx 0
   have d1:W.cell? ⟨B,1,none⟩=some _:=ag hx 1
   have d2:W.cell? ⟨B,2,none⟩=some _:=ag hx 2
   have d3:W.cell? ⟨B,3,none⟩=some _:=ag hx 3
   have d4:W.cell? ⟨B,4,none⟩=some _:=ag hx 4
   have d5:W.cell? ⟨B,5,none⟩=some _:=ag hx 5
   have d6:W.cell? ⟨B,6,none⟩=some _:=ag hx 6
   have d7:W.cell? ⟨B,7,none⟩=some _:=ag hx 7
   have d8:W.cell? ⟨B,8,none⟩=some _:=ag hx 8
   have lB:=au hx
   have lZ:=hn.lt
   have lD:Z+1<W.heap.size:=au (hd 0 _ rfl)
   have l0:w.heap.size<W.heap.size:=by omega
   have l1:w.heap.size+1<W.heap.size:=by omega
   have l2:w.heap.size+2<W.heap.size:=by omega
   have HB:=hide hB
   have Hb:=hide hb
   have Hd:=hide hd
   have Hn:=hide hn
   have HX:=hide hx
   have HN:=hide hown
   have Yo:=hide hsn
   clear hB hb hd hn hown hx hsn hout hrd hw2 hfr hrb hfm hf hlt
   try dsimp only
   simp only[List.setIfInBounds_toArray,List.set_cons_succ,List.set_cons_zero]
   gi_wp2_with fail
   refine dn 8 [⟨6,7,10,118,.agg #[.int .i64 0,.int .i64 0]⟩] [] hm (hZ:=(qI.cons Tryz.zeroValue118 Tryz.sizeOf118 qI.nil)) (h:=?_)
   repeat (refine ax (fun K hK=>?_);go_simp;first|(refine hK _ ?_;clear hK K)|(apply Exists.intro;refine⟨fun _=>?_,hK _ ?_⟩;(go_at_call 72;with_reducible exact kb.out _ gw);clear hK K))
   refine dZ ?_
   refine⟨(ja.cons (by rfl) (by simp[bV,Act.eval,Value.cells,Value.oneCell']) ja.nil),nT.nil,?_⟩
   rintro psq FI Wq iT F6 F8
   obtain rfl:FI=[]:=F8
   obtain⟨p0,_,rfl,hp0,hb0,hn0,rfl⟩:=F6
   simp only[putAll,putB,Act.put,aG]
   simp[bV,Act.eval,Value.cells] at hb0
   have xY:Wq.cell? ⟨p0,0,none⟩=some _:=ag hb0 0
   have xX:Wq.cell? ⟨p0,1,none⟩=some _:=ag hb0 1
   have Yl:=bM hb0
   have Yk:=au hb0
   have Xa:=hide hp0
   clear hb0 hn0 hp0
   have oc:=iW iT
   have of:=jw iT
   have ol:=rH iT
   replace iT:=hide iT
   clear d0 d1 d2 d3 d4 d5 d6 d7 d8
   by_cases hr0:r=0
   ·subst hr0
    have HS2:=hide (wV.out rfl)
    clear mO wV Yo
    gi_wp2_with fail
    have hx1:Boxed Wq (w.heap.size+1) _ _:=eF (Hb.out.box 1 rfl) iT.out
    have hx2:Boxed Wq (w.heap.size+2) _ _:=eF (Hb.out.box 2 rfl) iT.out
    have hbq:Below w.heap.size w Wq:=HB.out.trans (iT.out.below.mono HB.out.size)
    exact⟨(iT.out.aS _).trans ((KeepsFrom.setCell _ _ _ _).trans (KeepsFrom.setCell _ _ _ _)),⟨⟨(hbq.setCell (p:=⟨w.heap.size+1,0,none⟩) (by simp) _).setCell (p:=⟨w.heap.size+2,0,none⟩) (by simp) _,(hx1.set _).other (by simp) _⟩,(hx2.other (by simp) _).set _⟩,rfl,HS2.out⟩
   ·have hne:(r==0)=false:=by simpa using hr0
    have Dz:=hide (mO.out hr0)
    clear mO wV
    have hpq:=Xa.out
    gi_wp2_with (gi_at_builtin;refine kH.stop ?_)
    refine kH.go ?_
    refine wpListIn_append_own _ rfl (.tmp 30) (.tmp 32) 34 rfl (Z+2) 118 i0 _ 2 16 Tryz.underlying34 hi0 hz0 hz1 hz2 (by rfl) (by omega) _ out.length _ (by rfl) (aI HN.out (Grew.trans iT.out gw)) ⟨_,0,none⟩ 1 1 (dY (f.id,r)) (by rfl) (by rfl) (by intro j x hx;rw[rV];simp only[Nat.zero_add];match j,hx with|0,hx=>(injection hx with hx;subst hx;go_simp)|1,hx=>(injection hx with hx;subst hx;go_simp)) (fun x hx=>by simp[dY] at hx;rcases hx with rfl|rfl<;>rfl) (by unfold maxLen;omega) (by omega) (by have:=iT.out.below.size;simp;omega) ?_
    intro v' w3 hown' hgrow _
    obtain⟨gv,agX,rfl⟩:=ownsRow_succ hown'
    have Ug:Grew W (Wq.alloc (.cells #[.int .i64 f.id,.int .i64 r] 118)):=iT.out.trans gw
    obtain⟨z1,z2,z3,z4,z5,z6⟩:=EI (n₁:=w.heap.size) (eF Hn.out Ug) (by decide) (aI HN.out Ug) (by omega) (by omega) hown' hgrow
    have y1:=z1.cell
    have y2:=z1.frozen
    have Z2:=hide z2
    have Z3:=hide z3
    have Z4:=hide z4
    have Z5:=hide z5
    have Z6:=hide z6
    have Uk:=hide Ug
    clear z1 z2 z3 z4 z5 z6 hown' hgrow Ug c0 f0 c1 c2 f2 c3 f3 oc of ol xY xX Yl Yk
    gi_wp2_with fail
    refine⟨(Uk.out.aS _).trans (Z4.out.from _),(gW.grew Uk.out).trans (fun b cs T fr hM hb=>Z6.out b cs T fr (fun h=>hM (.inl h)) (fun h=>hM (.inr h)) hb),⟨⟨⟨⟨(HB.out.trans (Uk.out.below.mono HB.out.size)).trans Z5.out,?_⟩,?_⟩,Dz.out⟩,_,Z2.out,?_,trivial⟩⟩
    ·intro i o ho
     match i,ho with
     | 0,ho=>injection ho with ho;rw[<-ho];exact Z6.out _ _ _ _ (by omega) (by omega) ((Hb.out.grew Uk.out) 0 _ rfl)
     | 1,ho=>injection ho with ho;rw[<-ho];exact Z6.out _ _ _ _ (by omega) (by omega) ((Hb.out.grew Uk.out) 1 _ rfl)
     | 2,ho=>injection ho with ho;rw[<-ho];exact Z6.out _ _ _ _ (by omega) (by omega) ((Hb.out.grew Uk.out) 2 _ rfl)
    ·intro i o ho
     match i,ho with
     | 0,ho=>injection ho with ho;rw[<-ho];exact Z6.out _ _ _ _ (by omega) (by omega) ((Hd.out.grew Uk.out) 0 _ rfl)
    ·rw[Yo.out,List.flatMap_append,List.length_append]
     simpa using Z3.out
  case done =>
   subst ha
   rintro D xs W hD hS ⟨⟨⟨⟨hB,hb⟩,hd⟩,hp⟩,v,hn,hown,_⟩ hK
   have hun:vI fs gs (bD fs lim fs.length)=[]:=UC fun i hi=>by
    rw[<-hS] at hi
    obtain⟨j,hj,rfl⟩:=List.mem_map.1 hi
    exact hp j hj
   have hrr:=rW.out
   rw[if_pos hun] at hrr
   subst hrr
   rw[hS] at hown
   have c0:W.cell? ⟨Z,0,none⟩=_:=hn.cell
   have b1:Boxed W (w.heap.size+1) _ _:=hb.box 1 rfl
   have c1:=b1.cell
   have f1:=b1.frozen
   have b2:Boxed W (w.heap.size+2) _ _:=hb.box 2 rfl
   have c2:=b2.cell
   have f2:=b2.frozen
   have l1:=b1.lt
   have l2:=b2.lt
   obtain⟨Av,cv,rfl,_,hrd⟩:=Rd.iE (f:=dY) ni hown rfl
   have hne1:=(b1.not_row (by decide) hown).symm
   have hne2:=(b2.not_row (by decide) hown).symm
   have HB:=hide hB
   have HN:=hide hown
   have lZ:=hn.lt
   have ahv:=hide hne1
   have ahu:=hide hne2
   clear hB hb hd hn hS hown hp hun hrd b1 b2 hne1 hne2 rW
   gi_wp2_with fail
   have hK2:=(KeepsOthers.setCell (W.setCell ⟨w.heap.size+1,0,none⟩ (.slice Av (oP fs gs (bD fs lim fs.length)).length cv)) ⟨w.heap.size+2,0,none⟩ (.int .i64 0)).same D _ ((KeepsOthers.setCell W ⟨w.heap.size+1,0,none⟩ (.slice Av (oP fs gs (bD fs lim fs.length)).length cv)).same D _ hK rfl) rfl
   refine⟨by simp,.inl ⟨_,_,rfl,run_takeDeferred hK2,?_⟩⟩
   have hb5:=((HB.out.setCell (p:=⟨w.heap.size+1,0,none⟩) (by simp) (.slice Av (oP fs gs (bD fs lim fs.length)).length cv)).setCell (p:=⟨w.heap.size+2,0,none⟩) (by simp) (.int .i64 0)).trans (belowK_b (w:=w) (Nat.le_refl _) _ D _ (.deferred none) (by omega) hK2 rfl rfl)
   have e3:(((W.setCell ⟨w.heap.size+1,0,none⟩ (.slice Av (oP fs gs (bD fs lim fs.length)).length cv)).setCell ⟨w.heap.size+2,0,none⟩ (.int .i64 0)).putObj D (.deferred none)).cell? ⟨w.heap.size+1,0,none⟩=some (.slice Av (oP fs gs (bD fs lim fs.length)).length cv):=by
    rw[bG (by omega)]
    go_simp
   have e4:(((W.setCell ⟨w.heap.size+1,0,none⟩ (.slice Av (oP fs gs (bD fs lim fs.length)).length cv)).setCell ⟨w.heap.size+2,0,none⟩ (.int .i64 0)).putObj D (.deferred none)).cell? ⟨w.heap.size+2,0,none⟩=some (.int .i64 0):=by
    rw[bG (by omega)]
    go_simp
   have ho5:=ownsRow_putObj ((HN.out.kept (grownBy_setCell' W (w.heap.size+1) (.slice Av (oP fs gs (bD fs lim fs.length)).length cv)) (.inr ahv.out)).kept (grownBy_setCell' _ (w.heap.size+2) (.int .i64 0)) (.inr ahu.out)) (.deferred none) hK2 rfl
   obtain⟨Av2,cv2,he2,_,Zb⟩:=Rd.iE (f:=dY) ni ho5 rfl
   obtain rfl:Av=Av2:=by injection he2
   refine⟨.tuple #[.slice Av _ cv,.int .i64 0],by simp[results,Tryz.results34,go_sem,e3,e4];rfl,?_⟩
   exact⟨Av,cv,rfl,Zb,Grew.of_below hb5⟩
  case stop =>
   subst ha
   rintro D e pre W hD ⟨k,hk,hr⟩ ⟨⟨⟨hB,hb1⟩,hb2⟩,rfl,hun⟩ hK
   have hrr:=rW.out
   rw[if_neg hun] at hrr
   subst hrr
   have c1:=hb1.cell
   have c2:=hb2.cell
   have HB:=hide hB
   clear hB hb1 hb2 hr hk rW hun
   gi_wp2_with fail
   refine⟨by simp,.inl ⟨_,_,rfl,run_takeDeferred hK,?_⟩⟩
   have hb5:=HB.out.trans (belowK_b (w:=w) (Nat.le_refl _) _ D _ (.deferred none) (by omega) hK rfl rfl)
   have e3:=(bG (W:=W) (D:=D) (i:=0) (o:=.deferred none) (b:=w.heap.size+1) (by omega)).trans c1
   have e4:=(bG (W:=W) (D:=D) (i:=0) (o:=.deferred none) (b:=w.heap.size+2) (by omega)).trans c2
   refine⟨.tuple #[.slice none 0 0,.int .i64 19],by simp[results,Tryz.results34,go_sem,e3,e4],?_⟩
   exact⟨none,0,rfl,Rd.nil _ _ _ _,Grew.of_below hb5⟩
set_option maxHeartbeats 8000000
set_option maxRecDepth 100000
def findF (fs:List FV)(x:Int):Option FV:=fs.find? fun f=>decide (f.id=x)
def aeS (fs gs:List FV)(p:Pt):Bool:=match findF fs p.1,findF gs p.2 with|some f,some g=>je f g|_,_=>false
def YM (ps:List Pt)(x:Int):Bool:=ps.any fun p=>decide (p.1=x)
def acJ (fs:List FV)(ps:List Pt)(is:List Nat):Bool:=is.all fun i=>YM ps (bF fs i).id
def Qq (fs gs:List FV)(lim:Int)(ps:List Pt):Bool×Int:=if lH fs gs lim=true then (pM ps&&(ps.all (aeS fs gs)&&acJ fs ps (bD fs lim fs.length)),0) else (false,1)
theorem tH.own {β:Type}{B mb n:Nat}{m:Int->Option Value}(h:mb<B):OwnFrom B (fun (_:β) W=>tH W mb n m):=by
 intro s W W' row hs hg hr
 exact hs.block (hg.block mb hs.lt (fun e=>by have:=(hr _ e.symm).1;omega))
end Go.Proofs.YtlkgjmnjhifehaaGreat
