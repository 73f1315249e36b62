/- Package rule: what a thinning does, in plain words; the function that looks for a near disc. Package rule: thin. -/
import Derived.Test.YtlkgjmnjhifehaaGreatRuD
import Derived.Test.YtlkgjmnjhifehaaGreatFeS
import Derived.Test.YtlkgjmnjhifehaaGreatPle
set_option linter.unusedSimpArgs false
set_option linter.unusedVariables false
set_option maxHeartbeats 16000000
set_option maxRecDepth 100000
namespace Go.Proofs.YtlkgjmnjhifehaaGreat
open Go.RowKit Go.Sort Go.Lib
attribute [local go_sem] dA steadyUpon
attribute [local go_sem ↓] bU bI aX aW aV aU aT
attribute [local go_sem] bH aK aJ size_grow tape_grow cell?_grow' aF aB grow_grow bW aY dR cO bY bK aN cZ aZ bZ bJ
attribute [local irreducible] wpSteady
def qV (n:Int)(f g:FV):Bool:=(kD (f.x,f.y) (g.x,g.y) (g.x,g.y) n).1
def zo (f g:FV):Bool:=(qw (f.x,f.y) f.dC (g.x,g.y) g.dC).1
def CP (f g:FV):Int:=(wH (f.x,f.y) (g.x,g.y)).1.2
def GX (f g:FV):FV:={ g with dC:=CP f g+f.dC }
def jD (f g:FV):FV:=if 100000<g.dC then g else if zo f g=true then g else GX f g
def thinStep (n:Int)(kept:List FV)(f:FV):List FV:=match kept.findIdx? (qV n f) with|none=>kept++[f]|some k=>kept.set k (jD f (bF kept k))
def iH (n:Int)(ds:List FV)(m:Nat):List FV:=(ds.take m).foldl (thinStep n) []
def fH (k:Int)(fs:List FV):List FV:=fs.filter fun f => !isKind k f
def dM (k:Int)(fs:List FV):List FV:=(fs.filter (isKind k)).mergeSort GM
def fO (k n:Int)(fs:List FV):List FV:=(fH k fs++iH n (dM k fs) (dM k fs).length).mergeSort leI
theorem jK {n:Int}{ds:List FV}{m:Nat}(h:m<ds.length):iH n ds (m+1)=thinStep n (iH n ds m) (bF ds m):=by
 unfold iH
 rw[List.take_add_one,dI h,List.foldl_append]
 rfl
theorem step_none {n:Int}{kept:List FV}{f:FV}(h:∀m,m<kept.length->qV n f (bF kept m)=false):thinStep n kept f=kept++[f]:=by
 unfold thinStep
 rw[List.findIdx?_eq_none_iff.2 (fun x hx=>?_)]
 obtain⟨m,hm,e⟩:=List.getElem_of_mem hx
 have:=h m hm
 have a:=dI hm
 rw[List.getElem?_eq_getElem hm,e] at a
 injection a with a
 rw[a]
 exact this
theorem step_some {n:Int}{kept:List FV}{f:FV}{k:Nat}(hk:k<kept.length)(h1:qV n f (bF kept k)=true)(h2:∀m,m<k->qV n f (bF kept m)=false):thinStep n kept f=kept.set k (jD f (bF kept k)):=by
 unfold thinStep
 have e:∀m,(h:m<kept.length)->kept[m]=bF kept m:=fun m h=>by
  have a:=dI h
  rw[List.getElem?_eq_getElem h] at a
  injection a
 rw[List.findIdx?_eq_some_iff_getElem.2 ⟨hk,by rw[e];exact h1,fun j hj=>by rw[e,h2 j hj];simp⟩]
def Src (fs:List FV)(g:FV):Prop:=∃f,f∈fs/\g={ f with dC:=g.dC }
theorem Src.of {fs:List FV}{f:FV}(h:f∈fs):Src fs f:=⟨f,h,rfl⟩
theorem Src.mono {fs gs:List FV}{g:FV}(h:Src fs g)(hs:∀f,f∈fs->f∈gs):Src gs g:=h.imp fun _ h=>⟨hs _ h.1,h.2⟩
theorem Src.grow {fs:List FV}{g:FV}(h:Src fs g)(r:Int):Src fs { g with dC:=r }:=by
 obtain⟨f,hf,e⟩:=h
 exact⟨f,hf,by rw[e]⟩
theorem Src.rd {fs:List FV}{g:FV}{w:World}{B:Nat}(h:Src fs g)(hr:∀f,f∈fs->f.rd w B):g.rd w B:=by
 obtain⟨f,hf,e⟩:=h
 have:=hr f hf
 rw[e]
 exact⟨this.area,this.secs,this.la,this.ls,this.lc⟩
theorem WO (f g:FV):0<=CP f g/\CP f g<=8388608:=by
 unfold CP wH
 split
 ·rename_i h
  split
  ·simp
  ·have h2:lh f.x f.y=true/\lh g.x g.y=true:=by simpa[Pt.ok] using h
   have hd:=EK (a:=(f.x,f.y)) (b:=(g.x,g.y)) (c:=(g.x,g.y)) h2.1 h2.2 h2.2
   have hd0:=Xi (f.x,f.y) (g.x,g.y)
   obtain⟨h3,h4,_⟩:=xm _ hd0 (by omega)
   split
   ·exact⟨h3,by dsimp only;omega⟩
   ·dsimp only
    omega
 ·simp
structure Kept (ds:List FV) (g:FV):Prop where
 src:Src ds g
 dC:0<=g.dC/\g.dC<=9000000
theorem RY {ds:List FV}{f g:FV}(hf:0<=f.dC/\f.dC<=100000)(hg:Kept ds g):Kept ds (jD f g):=by
 unfold jD
 split
 ·exact hg
 ·split
  ·exact hg
  ·have:=WO f g
   exact⟨hg.src.grow _,by show 0<=CP f g+f.dC/\CP f g+f.dC<=9000000;omega⟩
theorem RX {ds kept:List FV}{n:Int}{f:FV}(hf:0<=f.dC/\f.dC<=100000)(hm:f∈ds)(h:∀g,g∈kept->Kept ds g):∀g,g∈thinStep n kept f->Kept ds g:=by
 intro g hg
 unfold thinStep at hg
 split at hg
 ·rcases List.mem_append.1 hg with hg|hg
  ·exact h g hg
  ·rw[List.mem_singleton.1 hg]
   exact⟨Src.of hm,by omega⟩
 ·rename_i k hk
  rcases List.mem_or_eq_of_mem_set hg with hg|hg
  ·exact h g hg
  ·rw[hg]
   have hk2:k<kept.length:=(List.findIdx?_eq_some_iff_getElem.1 hk).1
   exact RY hf (h _ (dQ hk2))
theorem zA {ds:List FV}{n:Int}(hd:∀f,f∈ds->0<=f.dC/\f.dC<=100000):∀m,m<=ds.length->∀g,g∈iH n ds m->Kept ds g
 | 0,_=>fun g hg=>by simp[iH] at hg
 | m+1,h=>by
  rw[jK (by omega)]
  exact RX (hd _ (dQ (by omega))) (dQ (by omega)) (zA hd m (by omega))
theorem Y6 (f g:FV):(jD f g).id=g.id:=by
 unfold jD
 split
 ·rfl
 ·split<;>rfl
theorem UQ {n:Int}{kept:List FV}{f:FV}:(thinStep n kept f).map FV.id=kept.map FV.id\/(thinStep n kept f).map FV.id=kept.map FV.id++[f.id]:=by
 unfold thinStep
 split
 ·right
  simp
 ·left
  rename_i k hk
  have hk2:k<kept.length:=(List.findIdx?_eq_some_iff_getElem.1 hk).1
  rw[List.map_set,Y6]
  apply List.ext_getElem?
  intro i
  by_cases hi:i=k
  ·subst hi
   rw[List.getElem?_set_self (by simpa using hk2),List.getElem?_map,dI hk2]
   rfl
  ·rw[List.getElem?_set_ne (fun e=>hi e.symm)]
theorem Ew {n:Int}{ds:List FV}:∀m,m<=ds.length->((iH n ds m).map FV.id).Sublist ((ds.take m).map FV.id)
 | 0,_=>by simp[iH]
 | m+1,h=>by
  have ih:=Ew (n:=n) (ds:=ds) m (by omega)
  rw[jK (by omega),List.take_add_one,dI (by omega),List.map_append]
  rcases UQ (n:=n) (kept:=iH n ds m) (f:=bF ds m) with e|e
  ·rw[e]
   exact ih.trans (List.sublist_append_left _ _)
  ·rw[e]
   exact ih.append (List.Sublist.refl _)
theorem kept_len {n:Int}{ds:List FV}{m:Nat}(h:m<=ds.length):(iH n ds m).length<=m:=by
 have:=(Ew (n:=n) m h).length_le
 simp only[List.length_map,List.length_take] at this
 omega
theorem nS (k:Int)(fs:List FV):(dM k fs).Perm (fs.filter (isKind k)):=List.mergeSort_perm _ _
theorem UI {k n:Int}{fs:List FV}(h:(fs.map FV.id).Nodup):((fH k fs++iH n (dM k fs) (dM k fs).length).map FV.id).Nodup:=by
 have h1:((fs.filter (isKind k)++fH k fs).map FV.id).Nodup:=(((List.filter_append_perm (isKind k) fs).map FV.id).nodup_iff).2 h
 have h2:((fH k fs++dM k fs).map FV.id).Nodup:=by
  refine ((List.Perm.map FV.id ?_).nodup_iff).2 h1
  exact List.perm_append_comm.trans ((nS k fs).append_right _)
 refine List.Nodup.sublist ?_ h2
 rw[List.map_append,List.map_append]
 have:=Ew (n:=n) (ds:=dM k fs) _ (Nat.le_refl _)
 rw[List.take_length] at this
 exact (List.Sublist.refl _).append this
theorem zn {fs:List FV}(h:bQ fs=true):∀i j,i<j->j<fs.length->(bF fs i).id<(bF fs j).id:=by
 have hu:∀k,k<fs.length->FC fs k=true:=fun k hk=>by
  unfold bQ upTo at h
  rw[Bool.and_eq_true,List.all_eq_true] at h
  exact h.1 k (List.mem_range.2 hk)
 have hs:∀k,k+1<fs.length->(bF fs k).id<(bF fs (k+1)).id:=fun k hk=>by
  have:=hu (k+1) hk
  unfold FC vW at this
  rw[Bool.and_eq_true,decide_eq_true_eq,if_neg (by omega),Nat.add_sub_cancel] at this
  exact this.2
 intro i j hij
 induction j with
 | zero=>omega
 | succ j ih =>
  intro hj
  by_cases e:i=j
  ·subst e;exact hs i hj
  ·exact Int.lt_trans (ih (by omega) (by omega)) (hs j hj)
theorem fB {fs:List FV}(h:bQ fs=true):∀f,f∈fs->bf f=true:=by
 intro f hf
 obtain⟨k,hk,e⟩:=List.getElem_of_mem hf
 unfold bQ upTo at h
 rw[Bool.and_eq_true,List.all_eq_true] at h
 have:=h.1 k (List.mem_range.2 hk)
 unfold FC at this
 rw[Bool.and_eq_true] at this
 have a:=dI hk
 rw[List.getElem?_eq_getElem hk,e] at a
 injection a with a
 rw[a]
 exact this.1
theorem jU {fs:List FV}(h:bQ fs=true):fs.length<=300:=by
 unfold bQ at h
 rw[Bool.and_eq_true,decide_eq_true_eq] at h
 exact h.2
theorem NY {fs:List FV}(h:bQ fs=true):(fs.map FV.id).Nodup:=by
 unfold List.Nodup
 rw[List.pairwise_map,List.pairwise_iff_getElem]
 intro i j hi hj hij
 have e:∀m,(h:m<fs.length)->fs[m]=bF fs m:=fun m h=>by
  have a:=dI h
  rw[List.getElem?_eq_getElem h] at a
  injection a
 rw[e,e]
 have:=zn h i j hij hj
 omega
theorem Ag {f:FV}(h:bf f=true):0<=f.dC/\f.dC<=100000:=by
 unfold bf wP at h
 rw[Bool.and_eq_true,decide_eq_true_eq] at h
 exact h.1.2.2.2
theorem YA (f g:FV)(F R:Nat)(o k n:Int)(r:Bool)(w:World)(hF:Un w F 0 f)(lF:F<w.heap.size)(hR:dK w R o k n)(h:qV n f g=r) :
  Calls Tryz.prog 121 #[g.val,.pointer (some ⟨F,0,none⟩),.pointer (some ⟨R,0,none⟩)] w (aC w (.bool r)):=by
 have hm:=aP
 obtain⟨⟨u,e⟩,hu⟩:∃u,kD (f.x,f.y) (g.x,g.y) (g.x,g.y) n=u:=⟨_,rfl⟩
 have k1:=hide (fun W=>XR (f.x,f.y) (g.x,g.y) (g.x,g.y) n (u,e) W hu)
 unfold qV at h
 rw[hu] at h
 dsimp only at h k1
 subst h
 have c2:=hF.c2
 have c3:=hF.c3
 rw[Nat.zero_add] at c2 c3
 obtain⟨⟨r0,r1,r2⟩,lR⟩:=hR
 clear hF hu
 go_enter Tryz.func121,Tryz.ntmps121
 go_wp2_with (go_at_call 122;with_reducible refine aQ (k1.out _) fun _ _=>?_;dsimp only)
 go_ret
 exact aC.mk' rfl gw
theorem aby (f:FV)(fs:List FV)(A:Option Addr)(c F R:Nat)(o k n:Int)(w:World)(hF:Un w F 0 f)(lF:F<w.heap.size)(hR:dK w R o k n)(hr:Rd w w.heap.size 9 A (fs.map FV.cells))(hc:fs.length<=1000) :
  Calls Tryz.prog 97 #[.slice A fs.length c,.func (.func 121) #[] #[.pointer (some ⟨F,0,none⟩),.pointer (some ⟨R,0,none⟩)]] w fun e w'=>X7 (qV n f) fs e/\Grew w w':=by
 have hm:=aP
 have HR:=hide hr
 have HF:=hide hF
 have HRu:=hide hR
 clear hr hF hR
 go_enter Tryz.func97,Tryz.ntmps97
 go_wp2_with fail
 go_loopw [8] (fun i wr=>∃m:Nat,m<=fs.length/\i=.int .i64 m/\Grew w wr/\wW (∀j,j<m->qV n f (bF fs j)=false)) (fun i _=>fs.length-(intOf i).toNat)
 case atStart=>exact⟨0,by omega,rfl,gw,fun j hj=>by omega⟩
 case round =>
  obtain⟨m,hmm,rfl,hg,hall⟩:=hrel
  have HG:=hide hg
  have HA:=hide hall.stop
  clear hg hall
  by_cases hlt:m<fs.length
  ·obtain⟨b,off,hA,hb,fc⟩:=rowAt (HR.out.up HG.out) hlt
   have hix:=aO (cap:=c) Tryz.underlying23 Tryz.sizeOf65 hA.out hlt
   obtain⟨u,hu⟩:∃u,qV n f (bF fs m)=u:=⟨_,rfl⟩
   have k1:=hide (fun W (hg:Grew w W)=>YA f (bF fs m) F R o k n u W (HF.out.up hg lF) (Nat.lt_of_lt_of_le lF hg.below.size) (HRu.out.up hg) hu)
   have HU:=hide hu
   obtain⟨c0,c1,c2,c3,c4,c5,c6,c7,c8⟩:=fc
   clear hu hA
   cases u
   ·go_wp2_with (go_at_call 121;with_reducible refine aQ (k1.out _ (HG.out.trans gw)) fun _ _=>?_;dsimp only)
    go_roundw
    case rel=>exact⟨m+1,by omega,by go_num,HG.out.trans gw,show ∀j,j<m+1->qV n f (bF fs j)=false from (fun j hj=>by
     by_cases e:j=m
     ·rw[e];exact HU.out
     ·exact HA.out j (by omega))⟩
    case measure=>simp[intOf];omega
   ·go_wp2_with (go_at_call 121;with_reducible refine aQ (k1.out _ (HG.out.trans gw)) fun _ _=>?_;dsimp only)
    go_ret
    exact⟨.inr ⟨m,by omega,rfl,HU.out,HA.out⟩,HG.out.trans gw⟩
  ·obtain rfl:m=fs.length:=by omega
   go_wp2_with fail
   go_ret
   exact⟨.inl ⟨rfl,HA.out⟩,HG.out⟩
attribute [local go_sem] uV
def ae7 (w:World)(fs':List FV)(e:Ending)(w':World):Prop:=∃A' c',e=.returned (.slice A' fs'.length c')/\Rd w' w'.heap.size 9 A' (fs'.map FV.cells)/\Grew w w'/\fs'.length<=c'
theorem NQ (k:Int)(fs:List FV):(fH k fs).length<=fs.length:=List.length_filter_le _ _
theorem SY (k:Int)(fs:List FV):(dM k fs).length<=fs.length:=by
 unfold dM
 rw[List.length_mergeSort]
 exact List.length_filter_le _ _
theorem adX (k:Int)(fs:List FV):(fs.filter fun f => !noKind k f)=fs.filter (isKind k):=by
 congr 1
 funext f
 simp[noKind,isKind]
theorem UJ (o k n:Int)(fs:List FV)(A:Option Addr)(c:Nat)(w:World)(hr:Rd w w.heap.size 9 A (fs.map FV.cells))(hl:bQ fs=true) :
  Calls Tryz.prog 95 #[PE o k n,.slice A fs.length c] w (ae7 w (fO k n fs)):=by
 have hm:=aP
 have hlen:=jU hl
 have hnd:=NY hl
 have hva:∀f,f∈dM k fs->0<=f.dC/\f.dC<=100000:=fun f hf=>Ag (fB hl f (List.mem_filter.1 ((nS k fs).mem_iff.1 hf)).1)
 obtain⟨i0,hi,hz0,hz1,hz2⟩:=oK Le
 have HR:=hide hr
 have HND:=hide hnd
 have HVA:=hide hva
 clear hr hl hnd hva
 go_enter Tryz.func95,Tryz.ntmps95
 go_wp2_with fail
 refine fC ?_
 intro W0 hW
 have HE:Hid (jF W0 w.heap.size (w.heap.size+1) o k n):=hide (by
  rw[<-hW]
  refine⟨⟨⟨?_,?_,?_⟩,?_⟩,?_,?_⟩
  ·exact (ag ((heap_alloc_old _ _ (by first|omega|(simp;done)|(simp;omega))).trans (heap_alloc_new _ _)) 0)
  ·exact (ag ((heap_alloc_old _ _ (by first|omega|(simp;done)|(simp;omega))).trans (heap_alloc_new _ _)) 1)
  ·exact (ag ((heap_alloc_old _ _ (by first|omega|(simp;done)|(simp;omega))).trans (heap_alloc_new _ _)) 2)
  ·exact (by first|omega|(simp;done)|(simp;omega))
  ·exact (ag (az _ _ _ (by simp)) 0)
  ·exact (by first|omega|(simp;done)|(simp;omega)))
 have lN:Hid (Grew w W0):=hide (by rw[<-hW];exact gw)
 have hs0:W0.heap.size=w.heap.size+2:=by rw[<-hW];simp
 clear hW
 have lO:w.heap.size+1<W0.heap.size:=by omega
 have lR:w.heap.size<W0.heap.size:=by omega
 have hO:=HE.out.own
 refine wp_region_held_drew (S:=(fun w'=>w'.cell? ⟨w.heap.size+1,0,none⟩=some (.func (.func 116) #[] #[.pointer (some ⟨w.heap.size,0,none⟩)]))) hm ?_ (fun hHeld=>?_)
 ·exact (jF.up HE.out gw).own
 refine tk 0 ?_
 refine tk 2 ?_
 try simp only[Act.put,aG,bT]
 refine wpAnyH_ready (rs:=[1]) (by kernel_rfl) (by simp) ?_
 refine AllReadyH.cons (o:=_) rfl (fun K hK=>?_) AllReadyH.nil
 go_simp
 first|((go_at_call 25);(refine (jB fs A c _ (HR.out.up (lN.out.trans gw)) (by omega)).mono ?_);rintro e W1 ⟨v1,rfl,hown,hg⟩;have jE:Hid (Grew W0 W1):=hide (Grew.trans gw hg);have MJ:Hid (W1.ownsRow W0.heap.size 65 9 v1 fs.length (fs.flatMap FV.cells)):=hide hown;clear hown hg;dsimp only)|((go_at_call 117);(refine (PM fs v1 W0.heap.size w.heap.size (w.heap.size+1) o k n _ (HE.out.up gw) lR lO (by simpa[bU] using jE.out.below.size) (aI MJ.out gw) (by omega)).mono ?_);rintro e W2 ⟨v2,rfl,hown,hg⟩;have HG2:Hid (Grew W0 W2):=hide (yB (Grew.trans jE.out gw) (aI MJ.out gw) (Nat.le_refl _) hg);have HO2:Hid (W2.ownsRow W0.heap.size 65 9 v2 (fH k fs).length ((fH k fs).flatMap FV.cells)):=hide hown;clear hown hg;dsimp only)|skip
 refine hK.out _ _ ?_ (fun hHeld=>?_)
 ·exact (jF.up HE.out gw).own
 clear hK K
 try simp only[Act.put,aG,bT]
 refine wpAnyH_ready (rs:=[3]) (by kernel_rfl) (by simp) ?_
 refine AllReadyH.cons (o:=_) rfl (fun K hK=>?_) AllReadyH.nil
 go_simp
 first|((go_at_call 25);(refine (jB fs A c _ (HR.out.up (lN.out.trans gw)) (by omega)).mono ?_);rintro e W1 ⟨v1,rfl,hown,hg⟩;have jE:Hid (Grew W0 W1):=hide (Grew.trans gw hg);have MJ:Hid (W1.ownsRow W0.heap.size 65 9 v1 fs.length (fs.flatMap FV.cells)):=hide hown;clear hown hg;dsimp only)|((go_at_call 117);(refine (PM fs v1 W0.heap.size w.heap.size (w.heap.size+1) o k n _ (HE.out.up gw) lR lO (by simpa[bU] using jE.out.below.size) (aI MJ.out gw) (by omega)).mono ?_);rintro e W2 ⟨v2,rfl,hown,hg⟩;have HG2:Hid (Grew W0 W2):=hide (yB (Grew.trans jE.out gw) (aI MJ.out gw) (Nat.le_refl _) hg);have HO2:Hid (W2.ownsRow W0.heap.size 65 9 v2 (fH k fs).length ((fH k fs).flatMap FV.cells)):=hide hown;clear hown hg;dsimp only)|skip
 refine hK.out _ _ ?_ (fun hHeld=>?_)
 ·exact (jF.up HE.out gw).own
 clear hK K
 try simp only[Act.put,aG,bT]
 refine tk 4 ?_
 try simp only[Act.put,aG,bT]
 refine wpAnyH_done (by kernel_rfl) ?_ _
 go_wp2_with fail
 refine (jB fs A c _ (HR.out.up (lN.out.trans (HG2.out.trans gw))) (by omega)).mono ?_
 rintro e W3 ⟨v3,rfl,hown,hg⟩
 have vF:Hid (Grew W2 W3):=hide (Grew.trans gw hg)
 have Ui:Hid (W3.ownsRow W2.heap.size 65 9 v3 fs.length (fs.flatMap FV.cells)):=hide hown
 have hs2:=HG2.out.below.size
 clear hown hg
 dsimp only
 go_wp2_with fail
 refine (VC fs v3 W2.heap.size w.heap.size (w.heap.size+1) o k n _ (HE.out.up (HG2.out.trans (vF.out.trans gw))) (by omega) (by omega) (by simpa[bU] using vF.out.below.size) (aI Ui.out gw) (by omega)).mono ?_
 rintro e W4 ⟨v4,rfl,hown,hg⟩
 rw[adX] at hown
 have qK:Hid (Grew W2 W4):=hide (yB (Grew.trans vF.out gw) (aI Ui.out gw) (Nat.le_refl _) hg)
 have HO4:=hide hown
 clear hown hg
 dsimp only
 go_wp2_with fail
 have aer:((fs.filter (isKind k)).map FV.id).Nodup:=List.Nodup.sublist ((List.filter_sublist (p:=isKind k)).map FV.id) HND.out
 refine (Q7 W2.heap.size v4 (fs.filter (isKind k)) _ (aI HO4.out gw) (by have:=List.length_filter_le (isKind k) fs;omega) aer).mono ?_
 rintro e W5 ⟨rfl,hg,⟨A5,c5,rfl,hrd⟩⟩
 have vC:Hid (Grew W2 W5):=hide (yB (Grew.trans qK.out gw) (aI HO4.out gw) (Nat.le_refl _) hg)
 have hd5:(fs.filter (isKind k)).length=(dM k fs).length:=(List.length_mergeSort _).symm
 rw[hd5]
 have HD:Hid (Rd W5 W5.heap.size 9 A5 ((dM k fs).map FV.cells)):=hide hrd
 have HE5:=hide (HE.out.up (HG2.out.trans vC.out))
 have hdl:=SY k fs
 have hol:=NQ k fs
 obtain⟨ds,hds⟩:∃ds,dM k fs=ds:=⟨_,rfl⟩
 have HDS:=hide hds
 rw[hds] at HD hdl HVA
 rw[hds]
 clear hrd hg hd5 aer hds HO4 Ui vF qK
 dsimp only
 go_wp2_with fail
 refine fC ?_
 intro W6 hW
 have X4:Hid (Grew W5 W6):=hide (by rw[<-hW];exact gw)
 clear hW
 have HD6:=hide (HD.out.up X4.out)
 have HE6:=hide (HE5.out.up X4.out)
 go_loopw [8,31] (fun kv i wr=>∃m:Nat,m<=ds.length/\i=.int .i64 m/\Grew W6 wr/\wr.ownsRow W6.heap.size 65 9 kv (iH n ds m).length ((iH n ds m).flatMap FV.cells)) (fun _ i _=>ds.length-(intOf i).toNat)
 case atStart=>exact⟨0,by omega,rfl,Grew.refl _,World.ownsRow_nil _ _ _ _⟩
 case round =>
  obtain⟨m,hmm,rfl,hg,hown⟩:=hrel
  have HG:=hide hg
  have hkl:=kept_len (n:=n) hmm
  have hka:=zA (n:=n) HVA.out m hmm
  by_cases hlt:m<ds.length
  ·obtain⟨b,off,hA,hb,fc⟩:=rowAt (HD6.out.up hg) hlt
   have hix:=aO (cap:=c5) Tryz.underlying23 Tryz.sizeOf65 hA.out hlt
   have hst:=jK (n:=n) hlt
   have hfr:=HVA.out _ (dQ hlt)
   obtain⟨f,hf⟩:∃f,bF ds m=f:=⟨_,rfl⟩
   rw[hf] at fc hst hfr
   obtain⟨kept,hk⟩:∃l,iH n ds m=l:=⟨_,rfl⟩
   rw[hk] at hown hkl hst hka
   obtain⟨A7,c7,rfl,hc7,Oc⟩:=Rd.iE fZ hown rfl
   have HK:=hide hown
   have FZ:=hide Oc
   have HST:=hide hst
   have k1:=hide (fun W (hg:Grew wr W) (hF:Un W wr.heap.size 0 f) (hl:wr.heap.size<W.heap.size)=>aby f kept A7 c7 wr.heap.size w.heap.size o k n W hF hl (HE6.out.box.up (HG.out.trans hg)) (FZ.out.up hg) (by omega))
   obtain⟨c0,c1,c2,c3,c4,c5',c6,c7',c8⟩:=fc
   clear hst hown Oc hg hA hf hk
   go_wp2_with fail
   refine (k1.out _ gw (Un.new _ f) (by simp)).mono ?_
   rintro e w' ⟨h,⟨⟨n1,os1⟩,rfl⟩⟩
   rcases h with⟨rfl,hn⟩|⟨q,hq,rfl,h1,h2⟩
   ·have hst:=HST.out.trans (step_none hn)
    have HS2:=hide hst
    clear hn hst k1
    dsimp only
    go_wp2_with (at_builtin;refine kH.stop ?_)
    refine kH.go ?_
    refine iw _ rfl (.tmp 40) (.tmp 42) _ rfl W6.heap.size 65 i0 _ 9 104 Tryz.underlying23 hi hz0 hz1 hz2 rfl (by omega) _ kept.length (kept.flatMap FV.cells) rfl (aI HK.out gw) _ (some ⟨_,0,none⟩) 1 1 ([f].flatMap FV.cells) rfl ((Rd.agb _ f _ (by simp[bU])).reads fZ (by omega)) (wE _) (by simp only[maxLen];omega) (by omega) (by have:=HG.out.below.size;simp[bU];omega) ?_
    intro v' w1 hown1 hg1 _
    have MJ:=hide hown1
    have ade:Hid (Grew W6 w1):=hide (yB (HG.out.trans gw) (aI HK.out gw) (Nat.le_refl _) hg1)
    clear hown1 hg1
    go_wp2_with fail
    go_roundw
    case rel=>exact⟨m+1,by omega,by go_num,ade.out,by rw[HS2.out,List.length_append,List.flatMap_append];exact MJ.out⟩
    case measure=>simp[intOf];omega
   ·have hst:=HST.out.trans (step_some hq h1 h2)
    obtain⟨gk,rfl⟩:∃gk,A7=some ⟨gk,0,none⟩:=by
     rcases HK.out.2 with⟨h',h0⟩|⟨g',cap',cur,h',_⟩
     ·omega
     ·simp only[Value.slice.injEq] at h'
      exact⟨g',h'.1⟩
    obtain⟨lg1,Uf⟩:=HK.out.lt gk rfl
    obtain⟨fcg,hfz⟩:=vP HK.out rfl hq
    have hkq:=hka _ (dQ hq)
    have hself:=YE hq
    have hix2:=aO (cap:=c7) (k:=q) (len:=kept.length) Tryz.underlying23 Tryz.sizeOf65 (A:=some ⟨gk,0,none⟩) rfl hq
    rw[Nat.zero_add] at hix2
    have hown2:=fun (X:World) (hg:Grew wr X) (x:Int)=>PG (aI HK.out hg) hq x
    obtain⟨g,hgg⟩:∃g,bF kept q=g:=⟨_,rfl⟩
    rw[hgg] at hst fcg hkq hself hown2
    obtain⟨d0,d1,d2,d3,d4,d5,d6,d7,d8⟩:=fcg
    obtain⟨⟨u,e2⟩,hu⟩:∃u,qw (f.x,f.y) f.dC (g.x,g.y) g.dC=u:=⟨_,rfl⟩
    obtain⟨⟨⟨d,d'⟩,e3⟩,hd⟩:∃u,wH (f.x,f.y) (g.x,g.y)=u:=⟨_,rfl⟩
    have hj:jD f g=if 100000<g.dC then g else if u=true then g else { g with dC:=d'+f.dC }:=by
     unfold jD zo GX CP
     rw[hu,hd]
    rw[hj] at hst
    have hdb:=WO f g
    unfold CP at hdb
    rw[hd] at hdb
    dsimp only at hdb
    have kl:=hide (fun W=>XU (f.x,f.y) f.dC (g.x,g.y) g.dC (u,e2) W hu)
    have kd:=hide (fun W=>adm (f.x,f.y) (g.x,g.y) ((d,d'),e3) W hd)
    dsimp only at kl kd
    have hgr:=hkq.dC
    have HS2:=hide hst
    have HSE:=hide hself
    have HOW:=hide hown2
    clear h1 h2 hst hka hkq hj hu hd hgg hself k1 hown2
    dsimp only
    by_cases hbig:100000<g.dC
    ·rw[if_pos hbig] at HS2
     go_wp2_with fail
     go_roundw
     case rel=>exact⟨m+1,by omega,by go_num,HG.out.trans gw,by rw[HS2.out,HSE.out];exact aI HK.out gw⟩
     case measure=>simp[intOf];omega
    ·rw[if_neg hbig] at HS2
     cases u
     ·rw[if_neg (by simp)] at HS2
      go_wp2_with fail
      refine ay 18 [] [] hm (h:=?_)
      repeat (refine ax (fun K hK=>?_);go_simp;first|(refine hK _ ?_;clear hK K)|(apply Exists.intro;refine⟨fun _=>?_,hK _ ?_⟩;(go_at_call 123;with_reducible exact kl.out _);clear hK K))
      refine lU fun nqa adT=>?_
      try simp only[Act.put,aG]
      try dsimp only
      go_wp2_with fail
      refine ay 13 [⟨10,11,15,48,.agg #[.int .i64 0,.int .i64 0]⟩] [] hm (hZ:=(qI.cons Tryz.zeroValue48 Tryz.sizeOf48 qI.nil)) (h:=?_)
      repeat (refine ax (fun K hK=>?_);go_simp;first|(refine hK _ ?_;clear hK K)|(apply Exists.intro;refine⟨fun _=>?_,hK _ ?_⟩;(go_at_call 124;with_reducible exact kd.out _);clear hK K))
      refine dZ ?_
      refine⟨(ja.cons (by rfl) (by simp[bV,Act.eval,Value.cells,Value.oneCell']) ja.nil),nT.nil,?_⟩
      rintro psq FI Wq iT F6 F8
      obtain rfl:FI=[]:=F8
      obtain⟨p0,_,rfl,hp0,hb0,hn0,rfl⟩:=F6
      simp only[putAll,putB,Act.put,aG]
      simp[bV,Act.eval,Value.cells] at hb0
      have xY:Wq.cell? ⟨p0,0,none⟩=some _:=ag hb0 0
      have xX:Wq.cell? ⟨p0,1,none⟩=some _:=ag hb0 1
      have Yl:=bM hb0
      have Yk:=au hb0
      have Xa:=hide hp0
      clear hb0 hn0 hp0
      have oc:=iW iT
      have of:=jw iT
      have ol:=rH iT
      replace iT:=hide iT
      go_wp2_with fail
      go_roundw
      case rel=>exact⟨m+1,by omega,by go_num,Zj (HG.out.trans gw) lg1,by rw[HS2.out,List.length_set];exact HOW.out _ gw _⟩
      case measure=>simp[intOf];omega
     ·rw[if_pos rfl] at HS2
      go_wp2_with fail
      refine ay 18 [] [] hm (h:=?_)
      repeat (refine ax (fun K hK=>?_);go_simp;first|(refine hK _ ?_;clear hK K)|(apply Exists.intro;refine⟨fun _=>?_,hK _ ?_⟩;(go_at_call 123;with_reducible exact kl.out _);clear hK K))
      refine lU fun nqa adT=>?_
      try simp only[Act.put,aG]
      try dsimp only
      go_wp2_with fail
      go_roundw
      case rel=>exact⟨m+1,by omega,by go_num,HG.out.trans gw,by rw[HS2.out,HSE.out];exact aI HK.out gw⟩
      case measure=>simp[intOf];omega
  ·obtain rfl:m=ds.length:=by omega
   have agA:=hka
   have Oc:=Rd.iE fZ hown rfl
   obtain⟨A7,c7,rfl,hc7,Oc⟩:=Oc
   have HK:=hide hown
   have FZ:=hide Oc
   have hid:=UI (k:=k) (n:=n) HND.out
   have hot:fO k n fs=(fH k fs++iH n ds ds.length).mergeSort leI:=by
    unfold fO
    rw[HDS.out]
   rw[HDS.out] at hid
   obtain⟨kept,hk⟩:∃l,iH n ds ds.length=l:=⟨_,rfl⟩
   rw[hk] at hid HK FZ hkl hot ⊢
   have ac3:=hide hot
   have HID:=hide hid
   have HOT:=aI HO2.out (vC.out.trans (X4.out.trans HG.out))
   have HO9:=hide HOT
   clear hg hown hka agA Oc hk hid hot HOT
   go_wp2_with (at_builtin;refine kH.stop ?_)
   refine kH.go ?_
   refine iw _ rfl (.tmp 89) (.tmp 90) _ rfl W0.heap.size 65 i0 _ 9 104 Tryz.underlying23 hi hz0 hz1 hz2 rfl (by omega) _ (fH k fs).length ((fH k fs).flatMap FV.cells) rfl HO9.out wr.heap.size A7 kept.length c7 (kept.flatMap FV.cells) rfl (FZ.out.reads fZ (by omega)) (wE _) (by simp only[maxLen];omega) (by omega) (by have:=HG.out.below.size;have:=X4.out.below.size;have:=vC.out.below.size;omega) ?_
   intro v' w1 hown1 hg1 _
   have ade:Hid (Grew W0 w1):=hide (yB (HG2.out.trans (vC.out.trans (X4.out.trans HG.out))) HO9.out (Nat.le_refl _) hg1)
   rw[<-List.flatMap_append,<-List.length_append] at hown1
   have ac5:=hide hown1
   clear hown1 hg1
   go_wp2_with fail
   refine (Q4 W0.heap.size v' (fH k fs++kept) _ (aI ac5.out gw) (by rw[List.length_append];omega) HID.out).mono ?_
   rintro e W9 ⟨rfl,hg,⟨A9,c9,rfl,hrd⟩⟩
   have Um:Hid (Grew W0 W9):=hide (yB (Grew.trans ade.out gw) (aI ac5.out gw) (Nat.le_refl _) hg)
   have ahi:=hide hrd
   clear hrd hg
   dsimp only
   go_wp2_with fail
   go_ret
   exact⟨A9,c9,by rw[ac3.out,List.length_mergeSort];rfl,by rw[ac3.out];exact ahi.out.up gw,lN.out.trans (Um.out.trans gw),by
    obtain⟨_,_,e,h⟩:=kS ac5.out
    injection e with _ _ e3
    rw[ac3.out,List.length_mergeSort,e3]
    exact h⟩
end Go.Proofs.YtlkgjmnjhifehaaGreat
