
import Derived.Test.YtlkgjmnjhifehaaGreatSvY
import Derived.Test.YtlkgjmnjhifehaaGreatGrX
import Derived.Test.YtlkgjmnjhifehaaGreatDrB
import Derived.Test.YtlkgjmnjhifehaaGreatGeT
import Derived.Test.YtlkgjmnjhifehaaGreatGrY
import Derived.Test.YtlkgjmnjhifehaaGreatGrZ
import Derived.Test.YtlkgjmnjhifehaaGreatRuZ
set_option linter.unusedSimpArgs false
set_option linter.unusedVariables false
set_option maxHeartbeats 8000000
set_option maxRecDepth 100000
namespace Go.Proofs.YtlkgjmnjhifehaaGreat
open Go.RowKit Go.Sort
attribute [local go_sem] dC steadyUpon
attribute [local go_sem ↓] bQ bJ bg aZ aY aX aW
attribute [local go_sem] bH aN aK size_grow tape_grow cell?_grow' aF aC grow_grow bV bn dZ bZ bW bM aO cO bu bY bK
attribute [local irreducible] wpSteady
theorem QL {xs ys:List Int}{k:Nat}(hx:k<xs.length)(hy:k<ys.length)(h:xs.take k=ys.take k):(xs.take (k+1)=ys.take (k+1))↔FX xs k=FX ys k:=by
 rw[List.take_add_one,List.take_add_one,h,wK hx,wK hy]
 simp
theorem J8 (xs ys:List Int)(A A':Option Addr)(c c':Nat)(r:Bool)(w:World)(hx:Rd w w.heap.size 1 A (xs.map encZ))(hy:Rd w w.heap.size 1 A' (ys.map encZ))(hl:xs.length<=100000000)(hl':ys.length<=100000000)(h:decide (xs=ys)=r) :
  Calls Tryz.prog 23 #[.slice A xs.length c,.slice A' ys.length c'] w (aB w (.bool r)):=by
 have hm:=aQ
 have HX:=hide hx
 have HY:=hide hy
 clear hx hy
 by_cases hne:xs.length=ys.length
 ·obtain⟨n,hn⟩:∃n,ys.length=n:=⟨_,rfl⟩
  have HN:Hid (ys.length=n):=hide hn
  have HM:Hid (xs.length=n):=hide (hne.trans hn)
  rw[hne,hn]
  rw[hn] at hl'
  have HH:=hide h
  clear hne hn hl h
  go_enter Tryz.func23,Tryz.ntmps23
  go_wp2_with fail
  go_loopw [5] (fun i wr=>∃k:Nat,k<=n/\i=.int .i64 k/\Hid (Grew w wr)/\Hid (xs.take k=ys.take k)) (fun i _=>n-(intOf i).toNat)
  case atStart=>exact⟨0,by omega,rfl,hide gw,hide rfl⟩
  case round =>
   obtain⟨k,hk,rfl,hG,hT⟩:=hrel
   by_cases hlt:k<n
   ·obtain⟨b1,o1,hA,hb1,hc1⟩:=ML (HX.out.up hG.out) (k:=k) (by rw[HM.out];exact hlt)
    obtain⟨b2,o2,hA2,hb2,hc2⟩:=ML (HY.out.up hG.out) (k:=k) (by rw[HN.out];exact hlt)
    have ix1:=aJ (cap:=c) Tryz.underlying39 Tryz.sizeOf3 hA.out hlt
    have ix2:=aJ (cap:=c') Tryz.underlying39 Tryz.sizeOf3 hA2.out hlt
    rw[Nat.mul_one] at ix1 ix2
    have hst:=QL (by rw[HM.out];exact hlt) (by rw[HN.out];exact hlt) hT.out
    obtain⟨x,hx⟩:∃x,FX xs k=x:=⟨_,rfl⟩
    obtain⟨y,hy⟩:∃x,FX ys k=x:=⟨_,rfl⟩
    rw[hx] at hc1 hst
    rw[hy] at hc2 hst
    have HST:=hide hst
    clear hst hx hy hA hA2
    by_cases hxy:x=y
    ·have hT2:=hide (HST.out.2 hxy)
     clear HST
     subst hxy
     go_wp2_with fail
     refine ay 9 [] [] hm (h:=?_)
     repeat (refine au (fun K hK=>?_);go_simp;refine hK _ ?_;clear hK K)
     refine kZ fun nq osq=>?_
     try simp only[Act.put,aG]
     try dsimp only
     go_wp2_with fail
     go_roundw
     case rel=>exact⟨k+1,by omega,by go_num,hide (hG.out.trans gw),hT2⟩
     case measure=>simp[intOf];omega
    ·have hr:r=false:=by
      rw[<-HH.out,decide_eq_false_iff_not]
      intro e
      exact hxy (HST.out.1 (by rw[e]))
     subst hr
     go_wp2_with fail
     refine ay 9 [] [] hm (h:=?_)
     repeat (refine au (fun K hK=>?_);go_simp;refine hK _ ?_;clear hK K)
     refine kZ fun nq osq=>?_
     try simp only[Act.put,aG]
     try dsimp only
     go_wp2_with fail
     go_ret
     exact aB.mk' rfl (hG.out.trans gw)
   ·obtain rfl:k=n:=by omega
    have hr:r=true:=by
     rw[<-HH.out,decide_eq_true_eq]
     have:=hT.out
     rw[List.take_of_length_le (by rw[HM.out];exact Nat.le_refl _),List.take_of_length_le (by rw[HN.out];exact Nat.le_refl _)] at this
     exact this
    subst hr
    go_wp2_with fail
    go_ret
    exact aB.mk' rfl hG.out
 ·have hr:r=false:=by
   rw[<-h,decide_eq_false_iff_not]
   intro e
   exact hne (by rw[e])
  subst hr
  clear h HX HY
  generalize xs.length=n1 at *
  generalize ys.length=n2 at *
  go_enter Tryz.func23,Tryz.ntmps23
  go_wp2_with fail
  go_ret
  exact aB.mk' rfl gw
theorem J7 (s:So)(w:World):Calls Tryz.prog 21 #[s.val] w (aB w (uY s).val):=by
 have hm:=aQ
 rw[oZ]
 obtain⟨id,x,y,dn,lo,hi,tm⟩:=s
 unfold So.val
 dsimp only
 go_enter Tryz.func21,Tryz.ntmps21
 go_wp2_with fail
 refine bodyPost_ret (v:=.agg #[.int .i64 id,.int .i64 1,.int .i64 x,.int .i64 y,.int .i64 dn,.slice none 0 0,.int .i64 lo,.int .i64 0,.slice none 0 0]) (by simp[results,Tryz.results21,go_sem]) rfl ?_
 exact aB.mk' rfl gw
theorem Yq (n n' c c':Nat)(A A':Option Addr)(r:Bool)(w:World)(h:decide (n<=16/\n'<=12)=r):Calls Tryz.prog 6 #[XW A n c A' n' c'] w (aB w (.bool r)):=by
 have hm:=aQ
 unfold XW
 have hcase:¬ n<=16\/(n<=16/\n'<=12)\/(n<=16/\¬ n'<=12):=by omega
 rcases hcase with h1|⟨h1,h2⟩|⟨h1,h2⟩
 all_goals
  simp[h1] at h
  try simp[h2] at h
  subst h
  go_enter Tryz.func6,Tryz.ntmps6
  go_wp2_with fail
  go_ret
  exact aB.mk' (by simp<;>omega) gw
theorem Tz {q:FV->Bool}{fs:List FV}{k:Nat}(hk:k<fs.length)(h:(fs.take k).any q=false):(fs.take (k+1)).any q=q (aP fs k):=by
 rw[List.take_add_one,dA hk,List.any_append,h]
 simp
def Om (p:Pt)(f:FV):Bool:=(lN f p).2==0&&(lN f p).1
def IQ (fs:List FV)(p:Pt):Bool:=fs.any (Om p)
theorem YL (fs:List FV)(A:Option Addr)(c:Nat)(p:Pt)(r:Bool)(w:World)(hr:mM w w.heap.size A fs)(hc:fs.length<=100000000000000)(h:IQ fs p=r) :
  Calls Tryz.prog 17 #[.slice A fs.length c,pt p.1 p.2] w (aB w (.bool r)):=by
 have hm:=aQ
 have HR:=hide hr
 have HH:=hide h
 clear hr h
 obtain⟨p1,p2⟩:=p
 dsimp only
 go_enter Tryz.func17,Tryz.ntmps17
 go_wp2_with fail
 refine eG ?_
 intro W4 hW
 have hg4:Grew w W4:=by rw[<-hW];exact gw
 have hbp:W4.heap[w.heap.size]?=some (.cells #[.int .i64 p1,.int .i64 p2] 28 (0,0)):=by rw[<-hW];exact heap_alloc_new _ _
 have sW:=hide hg4
 have XK:=hide hbp
 clear hW hg4 hbp
 go_loopw [11] (fun i wz=>∃ (k:Nat),k<=fs.length/\i=.int .i64 k/\Hid (Grew W4 wz)/\Hid ((fs.take k).any (Om (p1,p2))=false)) (fun i _=>fs.length-(intOf i).toNat)
 case atStart=>exact⟨0,by omega,rfl,hide (Grew.refl _),hide rfl⟩
 case round =>
  obtain⟨k,hk,rfl,hG,hA⟩:=hrel
  have bp:=(hG.out.heap (ax XK.out)).trans XK.out
  have e0:=ag bp 0
  have e1:=ag bp 1
  have lp:=ax bp
  clear bp
  by_cases hlt:k<fs.length
  ·obtain⟨b,off,hA',hb,fc⟩:=vW (HR.out.up (sW.out.trans hG.out)) hlt
   have hfr:=(HR.out.up (sW.out.trans hG.out)).each _ (dL hlt)
   have hix:=aJ (cap:=c) Tryz.underlying23 Tryz.sizeOf65 hA'.out hlt
   have hs1:=Tz (q:=Om (p1,p2)) hlt hA.out
   have hmm:=dL hlt
   obtain⟨o,ho⟩:∃o,lN (aP fs k) (p1,p2)=o:=⟨_,rfl⟩
   have hok:Om (p1,p2) (aP fs k)=(o.2==0&&o.1):=by unfold Om;rw[ho]
   have k5:=hide (fun W (hg:Grew wr W)=>Fg (aP fs k) (p1,p2) o W (hfr.up hg) ho)
   have Jz:Hid (Om (p1,p2) (aP fs k)=true->r=true):=hide fun e=>by rw[<-HH.out];exact List.any_eq_true.2 ⟨_,hmm,e⟩
   rw[hok] at hs1 Jz
   have OL:=hide hs1
   obtain⟨x0,x1,x2,x3,x4,x5,x6,x7,x8⟩:=fc
   clear ho hok hs1 hmm hfr hA'
   generalize aP fs k=f at *
   obtain⟨id,kind,x,y,dn,aA,ac,area,dep,sym,sA,sc,secs⟩:=f
   unfold FV.val at k5
   obtain⟨o1,o2⟩:=o
   dsimp only at *
   generalize area.length=na at *
   generalize secs.length=nn at *
   have hcase:(o2=0/\o1=true)\/(o2=0/\o1=false)\/(o2==0)=false:=by by_cases h2:o2=0<;>cases o1<;>simp[h2]
   rcases hcase with⟨rfl,rfl⟩|⟨rfl,rfl⟩|h2
   ·have hr:=Jz.out rfl
    subst hr
    go_wp2_with (go_at_call 51;with_reducible refine aT (k5.out _ gw) fun _ _=>?_;dsimp only)
    go_ret
    exact aB.mk' rfl ((sW.out.trans hG.out).trans gw)
   ·have HN:=hide (OL.out.trans (rfl:((0:Int)==0&&false)=false))
    clear OL Jz
    go_wp2_with (go_at_call 51;with_reducible refine aT (k5.out _ gw) fun _ _=>?_;dsimp only)
    go_roundw
    case rel=>exact⟨k+1,by omega,by go_num,hide (hG.out.trans gw),HN⟩
    case measure=>simp[intOf];omega
   ·have HN:=hide (OL.out.trans (by rw[h2];rfl:(o2==0&&o1)=false))
    clear OL Jz
    go_wp2_with (go_at_call 51;with_reducible refine aT (k5.out _ gw) fun _ _=>?_;dsimp only)
    go_roundw
    case rel=>exact⟨k+1,by omega,by go_num,hide (hG.out.trans gw),HN⟩
    case measure=>simp[intOf];omega
  ·obtain rfl:k=fs.length:=by omega
   have hr:r=false:=by
    rw[<-HH.out]
    have:=hA.out
    rw[List.take_length] at this
    exact this
   subst hr
   go_wp2_with fail
   go_ret
   exact aB.mk' rfl (sW.out.trans hG.out)
end Go.Proofs.YtlkgjmnjhifehaaGreat
namespace Go.Proofs.YtlkgjmnjhifehaaGreat
open Go.RowKit Go.Sort
theorem QW {fs:List FV}(h:CO fs){f g:FV}(hf:f∈fs)(hg:g∈fs)(he:f.id=g.id):f=g:=by
 obtain⟨i,hi,rfl⟩:=iZ hf
 obtain⟨j,hj,rfl⟩:=iZ hg
 rcases Nat.lt_trichotomy i j with h1|rfl|h1
 ·have:=H8 h h1 hj;omega
 ·rfl
 ·have:=H8 h h1 hi;omega
theorem JX (p:Pt):∀ (gs:List FV) (l:Int),gs.foldl (kT p) l<=l/\∀g∈gs,iQ g p=true->gs.foldl (kT p) l<=g.dep
 | [],l=>⟨Int.le_refl _,fun g hg=>by cases hg⟩
 | f::gs,l=>by
  obtain⟨h1,h2⟩:=JX p gs (kT p l f)
  have hs:kT p l f<=l:=by
   unfold kT
   split
   ·rename_i h;rw[Bool.and_eq_true,decide_eq_true_eq] at h;omega
   ·exact Int.le_refl _
  refine⟨Int.le_trans h1 hs,fun g hg hc=>?_⟩
  rcases List.mem_cons.1 hg with rfl|hg
  ·refine Int.le_trans h1 ?_
   unfold kT
   by_cases hd:g.dep<l
   ·rw[if_pos (by rw[hc,decide_eq_true hd];rfl)];exact Int.le_refl _
   ·rw[if_neg (by rw[decide_eq_false hd];simp)];omega
  ·exact h2 g hg hc
theorem Gi {fs gs:List FV}{lim:Int}{ps:List Pt}(h:rQ fs gs lim ps)(hr:CO fs){f:FV}(hf:f∈fs)(hc:countB f lim=true):∃g∈gs,iT f g=true:=by
 obtain⟨p,hp,he⟩:=h.cov f hf hc
 obtain⟨f',hf',g,hg,h1,h2,h3⟩:=h.good p hp
 obtain rfl:f'=f:=QW hr hf' hf (by rw[h1,he])
 exact⟨g,hg,h3⟩
theorem KE {ss:List So}{fs ch:List FV}{most:Int}{Gh:List Pt}(hs:mi ss fs=true)(hp:rQ (dG fs (gY ss) (gY ss).length) ch most Gh){x:So}(hx:x∈ss)(hid:x.id∈(gY ss).map So.id)(hlo:x.lo<most) :
  ∃c∈ch,mY c (uY x)=(true,0)/\c.dep<=x.lo:=by
 obtain⟨_,_,hap,hok⟩:=pV hs
 have hml:=xR hs
 have af0:x∈gY ss:=by
  obtain⟨y,hy,he⟩:=List.mem_map.1 hid
  have hys:y∈ss:=(List.mem_filter.1 hy).1
  have:x=y:=by
   obtain⟨i,hi,e1⟩:=List.mem_iff_getElem.1 hx
   obtain⟨j,hj,e2⟩:=List.mem_iff_getElem.1 hys
   rcases Nat.lt_trichotomy i j with h1|h1|h1
   ·have:=List.pairwise_iff_getElem.1 hap.1 i j hi hj h1
    rw[e1,e2] at this
    omega
   ·subst h1
    exact e1.symm.trans e2
   ·have:=List.pairwise_iff_getElem.1 hap.1 j i hj hi h1
    rw[e1,e2] at this
    omega
  rw[this]
  exact hy
 have hm:uY x∈dG fs (gY ss) (gY ss).length:=AB.2 (.inr ⟨x,af0,rfl⟩)
 obtain⟨g,hg,hmet⟩:=Gi hp (yG hml) hm (by unfold countB;rw[Bool.or_eq_true];exact .inr (decide_eq_true hlo))
 have hk:(uY x).kind≠4:=by show (1:Int)≠4;decide
 obtain⟨v1,v2,gk,gd,hc⟩:=(nU hk).1 hmet
 refine⟨g,hg,?_,gd⟩
 unfold mY
 rw[if_pos (by rw[v1,v2];rfl),(KW v1 v2 hk gk).2 hc]
theorem KF {ss:List So}{fs ch:List FV}{most d there:Int}{Gh:List Pt}{p:Pt}{is:Bool}(hs:mi ss fs=true)(hp:rQ (dG fs (gY ss) (gY ss).length) ch most Gh)
  (ha:oK ss fs p d=(is,0)) (ht:jI ch most p=(there,0)):there<=most/\(is=true->IQ (dG fs (gY ss) (gY ss).length) p=true->there<=d):=by
 unfold jI at ht
 by_cases hc:(bG ch&&(qR most&&p.ok))=true
 ·rw[if_pos hc] at ht
  rw[Bool.and_eq_true,Bool.and_eq_true] at hc
  injection ht with ht _
  refine⟨by omega,fun his hk=>?_⟩
  unfold oK at ha
  rw[if_pos (by rw[hs,hc.2.2];rfl)] at ha
  injection ha with ha _
  rw[his,Bool.and_eq_true,Bool.and_eq_true] at ha
  obtain⟨f,hf,hcv⟩:=List.any_eq_true.1 hk
  unfold Om at hcv
  rw[Bool.and_eq_true] at hcv
  have hfd:f.dep<=d:=by
   rcases AB.1 hf with h1|⟨x,h1,rfl⟩
   ·have:=List.all_eq_true.1 ha.2.2 f h1
    unfold Il at this
    rw[hcv.2] at this
    simp at this
    exact this
   ·have:=List.all_eq_true.1 ha.2.1 x h1
    unfold okS at this
    rw[hcv.2] at this
    simp at this
    exact this.1
  have hml:=xR hs
  have hcov:iQ f p=true:=by
   have:=hcv.2
   unfold lN at this
   split at this
   ·exact this
   ·cases this
  by_cases hm:most<=f.dep
  ·omega
  ·obtain⟨g,hg,hmet⟩:=Gi hp (yG hml) hf (by unfold countB;rw[Bool.or_eq_true];exact .inr (decide_eq_true (by omega)))
   obtain⟨h1,h2⟩:=YH hmet hc.2.2 hcov
   have h3:=(JX p ch 100000).2 g hg h1
   unfold o6 at ht
   rw[List.take_length] at ht
   omega
 ·rw[if_neg hc] at ht
  injection ht with _ ht
  cases ht
theorem KG {ss:List So}{fs ch:List FV}{most d:Int}{p:Pt}(hs:mi ss fs=true)(hch:bG ch=true)(hl:qR most=true):((oK ss fs p d).2=0/\(jI ch most p).2=0)\/((oK ss fs p d).2=1/\(jI ch most p).2=1):=by
 unfold oK jI
 rw[hs,hch,hl]
 cases p.ok
 ·exact .inr ⟨rfl,rfl⟩
 ·exact .inl ⟨rfl,rfl⟩
end Go.Proofs.YtlkgjmnjhifehaaGreat
namespace Go.Proofs.YtlkgjmnjhifehaaGreat
open Go.RowKit Go.Sort Go.Lib
def so1:So:=⟨1,0,0,5,27,31,1⟩
def Oy:FV:={ id:=1,kind:=1,x:=0,y:=0,dn:=5,aA:=none,ac:=0,area:=[],dep:=20,sym:=0,sA:=none,sc:=0,secs:=[] }
theorem xM {gw gh:Nat}{cs:List Int}{need:Int}{s:QS}{k:Nat}{o:List Int}(h:qK gw gh cs need k s=(o,[])):∀j,qK gw gh cs need (k+j) s=(o,[])
 | 0=>h
 | j+1=>by
  show J9 gw gh cs need (qK gw gh cs need (k+j) s)=_
  rw[xM h j]
  rfl
theorem Q3 {gw gh:Nat}{cs:List Int}{need:Int}{s:QS}{k k':Nat}{o o':List Int}(h:qK gw gh cs need k s=(o,[]))(h':qK gw gh cs need k' s=(o',[])):o=o':=by
 have h1:=xM h k'
 have h2:=xM h' k
 rw[Nat.add_comm] at h2
 rw[h1] at h2
 injection h2
def EF:List Int:=[20,20,100000,20,20,100000]
theorem y1:uf [so1] []=([uY so1],0):=by kernel_rfl
theorem y2:jH [uY so1] [(2,1,10)]=(([Oy],[(1,1)]),0):=by kernel_rfl
def chG (a:Option Addr)(n:Nat)(b:Option Addr)(m:Nat):FV:={ Oy with aA:=a,ac:=n,sA:=b,sc:=m }
theorem Ti {gs:List FV}(h:[Oy].map FV.bare=gs.map FV.bare):∃a n b m,gs=[chG a n b m]:=by
 cases gs with
 | nil=>simp at h
 | cons g gs =>
  cases gs with
  | nil =>
   simp only[List.map_cons,List.map_nil,List.cons.injEq,and_true] at h
   exact⟨g.aA,g.ac,g.sA,g.sc,by rw[OB h];rfl⟩
  | cons _ _=>simp at h
theorem z3 (a:Option Addr)(n:Nat)(b:Option Addr)(m:Nat):jI [chG a n b m] 100000 (0,0)=(20,0):=by kernel_rfl
theorem z4 (a:Option Addr)(n:Nat)(b:Option Addr)(m:Nat):jI [chG a n b m] 100000 (6,0)=(100000,0):=by kernel_rfl
theorem z5 (a:Option Addr)(n:Nat)(b:Option Addr)(m:Nat):gridOf [chG a n b m] (-10) (-10) 10 3 2=EF:=by kernel_rfl
theorem z6 (a:Option Addr)(n:Nat)(b:Option Addr)(m:Nat):lV (-10) (-10) 10 3 2=true/\bG [chG a n b m]=true:=⟨by kernel_rfl,by kernel_rfl⟩
theorem z9 (A:Option Addr)(c:Nat):Ir ⟨-10,-10,10,3,2,A,c,EF⟩ 21=true:=by kernel_rfl
theorem y3:jI [Oy] 100000 (0,0)=(20,0):=by kernel_rfl
theorem y4:jI [Oy] 100000 (6,0)=(100000,0):=by kernel_rfl
theorem y5:gridOf [Oy] (-10) (-10) 10 3 2=EF:=by kernel_rfl
theorem y6:(lV (-10) (-10) 10 3 2&&bG [Oy])=true:=by kernel_rfl
theorem y7:qK 3 2 EF 21 6 (lC 6 5)=([-1,-1,1,-1,-1,0],[]):=by kernel_rfl
theorem y8:Dx [-1,-1,1,-1,-1,0] 3 2 2=[2,5]:=by kernel_rfl
set_option maxHeartbeats 16000000
set_option maxRecDepth 100000
attribute [local go_sem] dC steadyUpon
attribute [local go_sem ↓] bQ bJ bg aZ aY aX aW
attribute [local go_sem] bH aN aK size_grow tape_grow cell?_grow' aF aC grow_grow bV bn dZ bZ bW bM aO cO bu bY bK
attribute [local irreducible] wpSteady
theorem Ws (w:World):Calls Tryz.prog 5 #[] w (aB w (.bool true)):=by
 have hm:=aQ
 go_enter Tryz.func5,Tryz.ntmps5
 go_wp2_with fail
 refine ny ?_
 intro X hX
 have HX:Hid (Grew w X):=hide (by rw[<-hX];exact gw)
 have HS:Hid (Rd X X.heap.size 7 (some ⟨w.heap.size,0,none⟩) ([so1].map So.cells)):=hide (by rw[<-hX];exact Rd.aeE Aa [so1] ((heap_alloc_old _ _ (by simp)).trans (heap_alloc_new _ _)) rfl)
 clear hX
 have k:=Jw [so1] [] (some ⟨w.heap.size,0,none⟩) none 1 0 X HS.out ⟨Rd.nil _ _ _ _,fun f hf=>by cases hf⟩ (by decide) (by decide)
 rw[y1] at k
 refine k.mono ?_
 clear k HS
 rintro e W1 ⟨A1,c1,rfl,hr1,hg1⟩
 have iI:Hid (Grew w W1):=hide (HX.out.trans hg1)
 have HR1:=hide hr1
 clear hr1 hg1 HX
 dsimp only
 go_wp2_with fail
 refine ny ?_
 intro X hX
 have HX:Hid (Grew W1 X):=hide (by rw[<-hX];exact gw)
 have HRU:Hid (Rd X X.heap.size 3 (some ⟨W1.heap.size,0,none⟩) (([(2,1,10)]:List Ru).map encR)):=hide (by rw[<-hX];exact Rd.aeE Ls [(2,1,10)] (heap_alloc_new _ _) rfl)
 clear hX
 have k:=OJ [uY so1] [(2,1,10)] A1 (some ⟨W1.heap.size,0,none⟩) c1 1 X (HR1.out.up HX.out) HRU.out (by decide) (by decide)
 rw[y2] at k
 refine k.mono ?_
 clear k HRU
 rintro e W2 ⟨A2,c2,fa,B2,d2,rfl,hb,hr2,_,hg2⟩
 obtain⟨a,na,b,nb,rfl⟩:=Ti hb.symm
 have HG2:Hid (Grew w W2):=hide ((iI.out.trans HX.out).trans hg2)
 have HR2:=hide hr2
 clear hb hr2 hg2 HX iI HR1
 have k1:=hide (fun W (hg:Grew W2 W)=>Ff [chG a na b nb] A2 c2 100000 (0,0) (20,0) W (HR2.out.up hg) (by simp) (z3 a na b nb))
 have k2:=hide (fun W (hg:Grew W2 W)=>Ff [chG a na b nb] A2 c2 100000 (6,0) (100000,0) W (HR2.out.up hg) (by simp) (z4 a na b nb))
 dsimp only[List.length_cons,List.length_nil] at k1 k2 ⊢
 go_wp2_with (first|(go_at_call 22;with_reducible refine aT (k1.out _ gw) fun _ _=>?_;dsimp only)|(go_at_call 22;with_reducible refine aT (k2.out _ gw) fun _ _=>?_;dsimp only))
 refine ny ?_
 intro X hX
 have HX:Hid (Grew W2 X):=hide (by rw[<-hX];exact gw)
 clear hX k1 k2
 have k:=XA [chG a na b nb] A2 c2 (-10) (-10) 10 3 2 X (HR2.out.up HX.out) (z6 a na b nb).1 (z6 a na b nb).2
 rw[z5] at k
 refine k.mono ?_
 clear k
 rintro e W3 ⟨A3,c3,rfl,hc3,hr3,hg3⟩
 have rU:Hid (Grew w W3):=hide ((HG2.out.trans HX.out).trans hg3)
 have HR3:=hide hr3
 clear hr3 hg3 HX HG2 HR2
 have e6:EF.length=6:=rfl
 unfold Gr.val
 dsimp only
 simp only[e6]
 have ka:=hide (fun W (hg:Grew W3 W)=>Xy (-10) (-10) 10 3 2 A3 c3 EF 21 2 5 W (HR3.out.up hg) (by decide) (by decide) rfl (by decide) (by decide) (z9 A3 c3))
 have kb:=hide (fun W (hg:Grew W3 W)=>Xy (-10) (-10) 10 3 2 A3 c3 EF 21 0 2 W (HR3.out.up hg) (by decide) (by decide) rfl (by decide) (by decide) (z9 A3 c3))
 go_wp2_with fail
 refine (ka.out _ gw).mono ?_
 rintro e W4 ⟨k4,o4,hk4,hg4,hres⟩
 obtain rfl:o4=[-1,-1,1,-1,-1,0]:=Q3 hk4 y7
 rcases hres with⟨hbad,_⟩|⟨_,A4,c4,rfl,hr4⟩
 ·exact absurd hbad (by decide)
 simp only[y8] at hr4 ⊢
 have hb4:=(hg4.heap (by simp)).trans (heap_alloc_new W3 _)
 have acY:Hid (Grew W3 W4):=hide (Grew.trans gw hg4)
 have HR4:=hide hr4
 have HB4:=hide hb4
 have g0:=ag hb4 0
 have g1:=ag hb4 1
 have g2:=ag hb4 2
 have g3:=ag hb4 3
 have g4:=ag hb4 4
 have g5:=ag hb4 5
 have lg:=ax hb4
 clear hk4 hg4 hr4 hb4 ka
 dsimp only[List.length_cons,List.length_nil]
 go_wp2_with fail
 refine (kb.out _ (acY.out.trans gw)).mono ?_
 rintro e W5 ⟨k5,o5,_,hg5,hres⟩
 rcases hres with⟨_,rfl⟩|⟨⟨hbad,_⟩,_⟩
 rotate_left
 ·exact absurd hbad (by decide)
 have aae:Hid (Grew W4 W5):=hide (Grew.trans gw hg5)
 have hb5:=(aae.out.heap lg).trans HB4.out
 have uX:Hid (Grew w W5):=hide ((rU.out.trans acY.out).trans aae.out)
 clear g0 g1 g2 g3 g4 g5 lg hg5 kb
 have g5:=ag hb5 5
 have lg:=ax hb5
 clear hb5
 dsimp only
 go_wp2_with fail
 refine ny ?_
 intro X hX
 have HX:Hid (Grew W5 X):=hide (by rw[<-hX];exact gw)
 have HB:Hid (Rd X X.heap.size 1 (some ⟨W5.heap.size,0,none⟩) (EF.map encZ)):=hide (by rw[<-hX];exact Rd.acw EF (heap_alloc_new _ _) rfl)
 clear hX
 have k:=J8 EF EF A3 (some ⟨W5.heap.size,0,none⟩) c3 6 true X (HR3.out.up ((acY.out.trans aae.out).trans HX.out)) HB.out (by decide) (by decide) (by decide)
 refine k.mono ?_
 clear k HB
 rintro e W6 ⟨rfl,RZ⟩
 have OO:Hid (Grew W5 W6):=hide (HX.out.trans RZ)
 clear RZ HX g5 lg
 dsimp only
 go_wp2_with fail
 refine ny ?_
 intro X hX
 have HX:Hid (Grew W6 X):=hide (by rw[<-hX];exact gw)
 have HB:Hid (Rd X X.heap.size 1 (some ⟨W6.heap.size,0,none⟩) (([2,5]:List Int).map encZ)):=hide (by rw[<-hX];exact Rd.acw [2,5] (heap_alloc_new _ _) rfl)
 clear hX
 have k:=J8 [2,5] [2,5] A4 (some ⟨W6.heap.size,0,none⟩) c4 2 true X (show Rd X X.heap.size 1 A4 (([2,5]:List Int).map encZ) from HR4.out.up ((aae.out.trans OO.out).trans HX.out)) HB.out (by decide) (by decide) (by decide)
 refine k.mono ?_
 clear k HB
 rintro e W7 ⟨rfl,hg7⟩
 have HG7:Hid (Grew w W7):=hide (((uX.out.trans OO.out).trans HX.out).trans hg7)
 clear hg7 HX
 dsimp only
 go_wp2_with fail
 go_ret
 exact aB.mk' rfl (HG7.out.trans gw)
end Go.Proofs.YtlkgjmnjhifehaaGreat
namespace Go.Proofs.YtlkgjmnjhifehaaGreat
theorem YI {f g:FV}{n:Int}(h:iT f g=true)(hc:countB f n=true):countB g n=true:=by
 unfold countB at *
 rw[Bool.or_eq_true,decide_eq_true_eq,decide_eq_true_eq] at *
 by_cases hf:f.kind=4
 ·rw[wS hf] at h
  exact .inl h.2.2.1
 ·rw[nU hf] at h
  have:=h.2.2.2.1
  exact .inr (by omega)
theorem VH (fs:List FV)(rs:List Ru):(jH fs rs).2=(gB rs fs).2/\(jH fs rs).1.1=if (gB rs fs).2=0 then fZ (gB rs fs).1 (capOf rs).1 else []:=by
 rcases Af rs fs with⟨h0,h1,h2,h3,h4⟩|⟨h0,h1,h2⟩|⟨h0,h1⟩
 ·have hcl:=EM h3 (capOf rs).1
  have hlm:=Qo h1
  have hask:=ET h2 hcl hlm
  have hu:uZ fs (fZ (gB rs fs).1 (capOf rs).1) (aS fs (capOf rs).1 fs.length)=[]:=by
   rw[O1 hcl]
   intro f hf hc
   obtain⟨g,hg,m1,_⟩:=Nc h0 hf
   exact⟨g,Xf hg (YI m1 hc),m1⟩
  have hp:(kE fs (fZ (gB rs fs).1 (capOf rs).1) (capOf rs).1).2=0:=by
   unfold kE
   rw[if_pos hask,if_pos hu]
  unfold jH
  rw[if_pos h0,if_pos hp,if_pos h0,h0]
  exact⟨rfl,rfl⟩
 ·have hne:(gB rs fs).2≠0:=by rw[h0];decide
  unfold jH
  rw[if_neg hne,if_neg hne]
  exact⟨rfl,rfl⟩
 ·have hne:(gB rs fs).2≠0:=by rw[h0];decide
  unfold jH
  rw[if_neg hne,if_neg hne]
  exact⟨rfl,rfl⟩
set_option maxHeartbeats 16000000
set_option maxRecDepth 100000
open Go.RowKit Go.Sort Go.Lib
attribute [local go_sem] dC steadyUpon
attribute [local go_sem ↓] bQ bJ bg aZ aY aX aW
attribute [local go_sem] bH aN aK size_grow tape_grow cell?_grow' aF aC grow_grow bV bn dZ bZ bW bM aO cO bu bY bK
attribute [local irreducible] wpSteady
theorem Ef {md ch:List FV}{rs:List Ru}{Gh:List Pt}{f:Int}(hl:bG md=true)(h:jH md rs=((ch,Gh),f)):(f=0/\oM rs=true/\bG ch=true/\rQ md ch (capOf rs).1 Gh)\/(f=3/\oM rs=true)\/(f=1/\oM rs=false):=by
 have h1:=(VH md rs).1
 rw[h] at h1
 dsimp only at h1
 rcases Af rs md with⟨h0,h2,_⟩|⟨h0,h2,_⟩|⟨h0,h2⟩
 ·rw[h0] at h1
  rcases NJ h with⟨e,_⟩|⟨_,_,h3,h4,_⟩
  ·exact absurd h1 e
  ·exact .inl ⟨h1,h2,h3,h4⟩
 ·exact .inr (.inl ⟨h1.trans h0,h2⟩)
 ·refine .inr (.inr ⟨h1.trans h0,?_⟩)
  cases hr:oM rs with
  | false=>rfl
  | true=>exact absurd ⟨hr,hl⟩ h2
theorem Xg {rs:List Ru}{most g:Int}(h:capOf rs=(most,g)):(oM rs=true/\g=0)\/(oM rs=false/\g=1):=by
 unfold capOf at h
 cases hr:oM rs
 ·rw[if_neg (by rw[hr];simp)] at h
  injection h with _ h
  exact .inr ⟨rfl,h.symm⟩
 ·rw[if_pos hr] at h
  injection h with _ h
  exact .inl ⟨rfl,h.symm⟩
theorem VI (fs:List FV)(rs:List Ru):(jH fs rs).1.2.length<=fs.length:=by
 unfold jH
 split
 ·split
  ·dsimp only
   unfold kE
   split
   ·split
    ·show (nK _ _ _).length<=_
     unfold nK
     rw[List.length_map]
     exact pI _ _ _
    ·simp
   ·simp
  ·simp
 ·simp
theorem Xq {q:Int->Bool}{zs:List Int}{k:Nat}{b:Bool}(hk:k<zs.length)(h:(zs.take k).any q=b):(zs.take (k+1)).any q=(b||q (FX zs k)):=by
 rw[List.take_add_one,wK hk,List.any_append,h]
 simp
theorem Xr {q:FV->Bool}{fs:List FV}{k:Nat}{b:Bool}(hk:k<fs.length)(h:(fs.take k).any q=b):(fs.take (k+1)).any q=(b||q (aP fs k)):=by
 rw[List.take_add_one,dA hk,List.any_append,h]
 simp
def okC (s:So)(c:FV):Bool:=((mY c (uY s)).2==0&&(mY c (uY s)).1)&&decide (c.dep<=s.lo)
theorem Ho (ss:List So)(fs:List FV)(A A':Option Addr)(c c':Nat)(rs:List Ru)(Ar:Option Addr)(cr:Nat)(p:Pt)(d:Int)(w:World)(hrs:Rd w w.heap.size 7 A (ss.map So.cells))(hr:mM w w.heap.size A' fs)(hc:ss.length<=100000000000000/\fs.length<=100000000000000)
  (hru:Rd w w.heap.size 3 Ar (rs.map encR)) (hcr:rs.length<=100000000000000) :
  Calls Tryz.prog 4 #[XW A ss.length c A' fs.length c',.slice Ar rs.length cr,pt p.1 p.2,.int .i64 d] w (aB w (.bool true)):=by
 have hm:=aQ
 obtain⟨p1,p2⟩:=p
 obtain⟨n,hn⟩:∃n,ss.length=n:=⟨_,rfl⟩
 obtain⟨n',hn'⟩:∃n,fs.length=n:=⟨_,rfl⟩
 obtain⟨nr,hnr⟩:∃n,rs.length=n:=⟨_,rfl⟩
 have kh:=hide (fun W=>Ws W)
 have kf:=hide (fun W=>Yq n n' c c' A A' _ W rfl)
 have HRS:=hide hrs
 have HR:=hide hr
 have HRU:=hide hru
 have HN:=hide hn
 have HN':=hide hn'
 have HNR:=hide hnr
 rw[hn,hn',hnr]
 rw[hn,hn'] at hc
 rw[hnr] at hcr
 clear hrs hr hru hn hn' hnr
 unfold XW at kf ⊢
 dsimp only
 by_cases hfew:n<=16/\n'<=12
 rotate_left
 ·simp only[decide_eq_false hfew] at kf
  go_enter Tryz.func4,Tryz.ntmps4
  go_wp2_with (first|(go_at_call 5;with_reducible refine aT (kh.out _) fun _ _=>?_;dsimp only)|(go_at_call 6;with_reducible refine aT (kf.out _) fun _ _=>?_;dsimp only))
  go_ret
  exact aB.mk' rfl gw
 simp only[decide_eq_true hfew] at kf
 by_cases h10:nr<=10
 rotate_left
 ·go_enter Tryz.func4,Tryz.ntmps4
  go_wp2_with (first|(go_at_call 5;with_reducible refine aT (kh.out _) fun _ _=>?_;dsimp only)|(go_at_call 6;with_reducible refine aT (kf.out _) fun _ _=>?_;dsimp only))
  go_ret
  exact aB.mk' rfl gw
 go_enter Tryz.func4,Tryz.ntmps4
 go_wp2_with (first|(go_at_call 5;with_reducible refine aT (kh.out _) fun _ _=>?_;dsimp only)|(go_at_call 6;with_reducible refine aT (kf.out _) fun _ _=>?_;dsimp only))
 refine ny ?_
 intro X hX
 have TV:Grew w X:=by rw[<-hX];exact gw
 have hbx:Bx X w.heap.size [.cells #[.slice A n c,.slice A' n' c'] 25 (0,0),.cells #[.int .i64 p1,.int .i64 p2] 28 (0,0)]:=by
  rw[<-hX]
  refine (Bx.lH _ w).1.grew ?_
  simp only[List.foldl]
  exact gw
 have HX:=hide TV
 have mG:=hide hbx
 clear hX TV hbx
 by_cases hv:mi ss fs=true
 rotate_left
 ·have km:=Jw ss fs A A' c c' X (HRS.out.up HX.out) (HR.out.up HX.out) (by rw[HN.out];omega) (by rw[HN'.out];omega)
  rw[show uf ss fs=([],1) by unfold uf;rw[if_neg hv],HN.out,HN'.out] at km
  refine km.mono ?_
  clear km
  rintro e W1 ⟨A1,c1,rfl,hr1,hg1⟩
  dsimp only
  obtain⟨⟨⟨ch,Gh⟩,f⟩,hmk⟩:∃r,jH [] rs=r:=⟨_,rfl⟩
  obtain⟨⟨most,g⟩,hcp⟩:∃r,capOf rs=r:=⟨_,rfl⟩
  have kk:=hide (fun W (hg:Grew W1 W)=>OJ [] rs A1 Ar c1 cr W (hr1.up hg) (HRU.out.up ((HX.out.trans hg1).trans hg)) (by simp) (by rw[HNR.out];omega))
  have kc:=hide (fun W (hg:Grew W1 W)=>Jv rs Ar cr (most,g) W (HRU.out.up ((HX.out.trans hg1).trans hg)) (by rw[HNR.out];omega) hcp)
  rw[hmk,HNR.out] at kk
  rw[HNR.out] at kc
  dsimp only[List.length_nil] at kk kc ⊢
  have iI:Hid (Grew w W1):=hide (HX.out.trans hg1)
  clear hr1 hg1 hmk hcp
  go_wp2_with fail
  refine (kk.out _ gw).mono ?_
  rintro e W2 ⟨A2,c2,fa,B2,d2,rfl,_,_,_,hg2⟩
  have HG2:Hid (Grew W1 W2):=hide (Grew.trans gw hg2)
  clear hg2
  dsimp only
  go_wp2_with (go_at_call 9;with_reducible refine aT (kc.out _ (HG2.out.trans gw)) fun _ _=>?_;dsimp only)
  go_ret
  exact aB.mk' rfl ((iI.out.trans HG2.out).trans gw)
 obtain⟨md,hmd⟩:∃m,dG fs (gY ss) (gY ss).length=m:=⟨_,rfl⟩
 have hml:=xR hv
 rw[hmd] at hml
 have hmn:md.length<=300:=by
  unfold bG at hml
  rw[Bool.and_eq_true,decide_eq_true_eq] at hml
  exact hml.2
 have km:=Jw ss fs A A' c c' X (HRS.out.up HX.out) (HR.out.up HX.out) (by rw[HN.out];omega) (by rw[HN'.out];omega)
 rw[show uf ss fs=(md,0) by unfold uf;rw[if_pos hv,hmd],HN.out,HN'.out] at km
 refine km.mono ?_
 clear km
 rintro e W1 ⟨A1,c1,rfl,hr1,hg1⟩
 dsimp only at hr1 ⊢
 obtain⟨⟨⟨ch,Gh⟩,f⟩,hmk⟩:∃r,jH md rs=r:=⟨_,rfl⟩
 obtain⟨⟨most,g⟩,hcp⟩:∃r,capOf rs=r:=⟨_,rfl⟩
 have kk:=hide (fun W (hg:Grew W1 W)=>OJ md rs A1 Ar c1 cr W (hr1.up hg) (HRU.out.up ((HX.out.trans hg1).trans hg)) (by omega) (by rw[HNR.out];omega))
 have kc:=hide (fun W (hg:Grew W1 W)=>Jv rs Ar cr (most,g) W (HRU.out.up ((HX.out.trans hg1).trans hg)) (by rw[HNR.out];omega) hcp)
 rw[hmk,HNR.out] at kk
 rw[HNR.out] at kc
 dsimp only at kk kc ⊢
 have iI:Hid (Grew X W1):=hide hg1
 have HR1:=hide hr1
 have TK:=hide hmk
 have HCP:=hide hcp
 have HMD:=hide hmd
 have HML:=hide hml
 obtain⟨nm,hnm⟩:∃n,md.length=n:=⟨_,rfl⟩
 rw[hnm] at kk ⊢
 have HNM:=hide hnm
 clear hr1 hg1 hmk hcp hmd hml hnm
 go_wp2_with fail
 refine (kk.out _ gw).mono ?_
 rintro e W2 ⟨A2,c2,fa,B2,d2,rfl,hbare,hr2,hp2,hg2⟩
 have HG2:Hid (Grew W1 W2):=hide (Grew.trans gw hg2)
 have HR2:=hide hr2
 have HP2:=hide hp2
 have HBA:=hide hbare
 obtain⟨na,hna⟩:∃n,fa.length=n:=⟨_,rfl⟩
 obtain⟨np,hnp⟩:∃n,Gh.length=n:=⟨_,rfl⟩
 clear hg2 hr2 hp2 hbare
 dsimp only
 rw[hna,hnp]
 have HNA:=hide hna
 have HNP:=hide hnp
 clear hna hnp
 go_upto_region 7 with (go_at_call 9;with_reducible refine aT (kc.out _ (HG2.out.trans gw)) fun _ _=>?_;dsimp only)
 have hcase:(f=3/\g=0)\/(f=1/\g=1)\/(f=0/\g=0):=by
  rcases Ef HML.out TK.out with⟨e,h1,_⟩|⟨e,h1⟩|⟨e,h1⟩<;>rcases Xg HCP.out with⟨h2,e2⟩|⟨h2,e2⟩<;>first|(simp[e,e2];done)|(rw[h1] at h2;cases h2)
 rcases hcase with⟨rfl,rfl⟩|⟨rfl,rfl⟩|⟨rfl,rfl⟩
 ·go_wp2_with fail
  go_ret
  exact aB.mk' rfl (((HX.out.trans iI.out).trans HG2.out).trans gw)
 ·go_wp2_with fail
  go_ret
  exact aB.mk' rfl (((HX.out.trans iI.out).trans HG2.out).trans gw)
 have hpr:rQ md fa most Gh:=by
  rcases Ef HML.out TK.out with⟨_,_,_,h⟩|⟨e,_⟩|⟨e,_⟩
  ·rw[HCP.out] at h
   exact Ko HBA.out.symm h
  ·exact absurd e (by decide)
  ·exact absurd e (by decide)
 have hck:lW md fa most Gh=(true,0):=by
  have h1:=Tf.2 hpr
  rcases Ov (fs:=md) (gs:=fa) (lim:=most) (ps:=Gh) with⟨h2,_⟩|⟨h2,_⟩
  ·exact Prod.ext h1 h2
  ·rw[h2] at h1;cases h1
 have hfl:fa.length<=300:=by
  have:=hpr.lg
  unfold bG at this
  rw[Bool.and_eq_true,decide_eq_true_eq] at this
  exact this.2
 have hpl:Gh.length<=300:=by
  have:=VI md rs
  rw[TK.out] at this
  dsimp only at this
  omega
 obtain⟨ids,Y2⟩:∃l,(gY ss).map So.id=l:=⟨_,rfl⟩
 obtain⟨nz,hnz⟩:∃n,ids.length=n:=⟨_,rfl⟩
 have aiX:nz<=300:=by
  rw[<-hnz,<-Y2,List.length_map]
  have:=yQ ss
  have:=HN.out
  omega
 have HGS:Hid (Grew w W2):=hide ((HX.out.trans iI.out).trans HG2.out)
 have YO:=hide (fun W (hg:Grew W2 W)=>aah md fa Gh A1 A2 B2 c1 c2 d2 most W (HR1.out.up (HG2.out.trans hg)) (HR2.out.up hg) (HP2.out.up hg) (by omega) (by omega) (by omega))
 rw[hck,HNM.out,HNA.out,HNP.out] at YO
 have YN:=hide (fun W (hg:Grew W2 W)=>TP ss fs A A' c c' W (HRS.out.up (HGS.out.trans hg)) (HR.out.up (HGS.out.trans hg)) (by rw[HN.out];omega) (by rw[HN'.out];omega))
 rw[show wZ ss fs=(ids,0) from by unfold wZ;rw[if_pos hv,Y2],HN.out,HN'.out] at YN
 unfold XW at YN
 have HV:=hide hv
 have HPR:=hide hpr
 have ag6:=hide Y2
 have HNZ:=hide hnz
 have aiZ:na<=300:=by rw[<-HNA.out];exact hfl
 have aiY:nm<=300:=by rw[<-HNM.out];exact hmn
 clear hv hpr Y2 hnz hck hfl hmn hpl kk kc
 have b4:W2.heap[w.heap.size]?=some (.cells #[.slice A n c,.slice A' n' c'] 25 (0,0)):=mG.out.grew (iI.out.trans HG2.out) 0 _ rfl
 have e0:=ag b4 0
 have e1:=ag b4 1
 have l4:=ax b4
 clear b4
 dsimp only at YO
 go_wp2_with (go_at_call 18;with_reducible refine aT (YO.out _ gw) fun _ _=>?_;dsimp only)
 refine (YN.out _ gw).mono ?_
 rintro e W3 ⟨A3,c3,rfl,hz3,hg3⟩
 have rU:Hid (Grew W2 W3):=hide (Grew.trans gw hg3)
 have HZ3:=hide hz3
 clear hz3 hg3 e0 e1 l4 YO YN
 dsimp only
 dsimp only at HZ3
 rw[HNZ.out]
 have HGT:Hid (Grew w W3):=hide (HGS.out.trans rU.out)
 have HB4:Hid (W3.heap[w.heap.size]?=some (.cells #[.slice A n c,.slice A' n' c'] 25 (0,0))):=hide (mG.out.grew ((iI.out.trans HG2.out).trans rU.out) 0 _ rfl)
 have HB5:Hid (W3.heap[w.heap.size+1]?=some (.cells #[.int .i64 p1,.int .i64 p2] 28 (0,0))):=hide (mG.out.grew ((iI.out.trans HG2.out).trans rU.out) 1 _ rfl)
 have e0:=ag HB4.out 0
 have e1:=ag HB4.out 1
 have l4:=ax HB4.out
 go_wp2_with fail
 clear e0 e1 l4
 go_loopw [9,113] (fun u i wr=>∃k:Nat,k<=n/\u=.bool true/\i=.int .i64 k/\Hid (Grew W3 wr)) (fun _ i _=>n-(intOf i).toNat)
 case atStart=>exact⟨0,by omega,rfl,rfl,hide gw⟩
 case round =>
  obtain⟨k,hk,rfl,rfl,hG⟩:=hrel
  by_cases hlt:k<n
  ·obtain⟨b,off,hA,hb,x0,x1,x2,x3,x4,x5,x6⟩:=Yg (HRS.out.up (HGT.out.trans hG.out)) (k:=k) (by rw[HN.out];exact hlt)
   have hix:=aJ (cap:=c) Tryz.underlying22 Tryz.sizeOf61 hA.out hlt
   have HME:=hide (CV (ss:=ss) (k:=k) (by rw[HN.out];exact hlt))
   generalize fU ss k=x at *
   obtain⟨y0,y1,y2,y3,y4,y5,y6⟩:=x
   dsimp only at x0 x1 x2 x3 x4 x5 x6
   go_wp2_with fail
   refine eG ?_
   intro W5 hW
   have hg5:Grew wr W5:=by rw[<-hW];exact gw
   have hb5:W5.heap[wr.heap.size]?=some (.cells #[.int .i64 y0,.int .i64 y1,.int .i64 y2,.int .i64 y3,.int .i64 y4,.int .i64 y5,.int .i64 y6] 61 (0,0)):=by rw[<-hW];exact heap_alloc_new _ _
   have uX:=hide hg5
   have HBY:=hide hb5
   clear hW hg5 hb5 x0 x1 x2 x3 x4 x5 x6 hix
   obtain⟨Z,hZ⟩:∃Z,wr.heap.size=Z:=⟨_,rfl⟩
   rw[hZ] at HBY ⊢
   have HZZ:=hide hZ
   clear hZ
   go_loopw [23,119] (fun u i wz=>∃ (j:Nat) (q:Bool),j<=nz/\u=.bool q/\i=.int .i64 j/\Hid (Grew W5 wz)/\Hid ((ids.take j).any (fun z=>z==y0)=q)) (fun _ i _=>nz-(intOf i).toNat)
   case atStart=>exact⟨0,false,by omega,rfl,rfl,hide (Grew.refl _),hide rfl⟩
   case round =>
    obtain⟨j,q,hj,rfl,rfl,hG2,hT⟩:=hrel
    have bz:=(hG2.out.heap (ax HBY.out)).trans HBY.out
    have z0:=ag bz 0
    have z4:=ag bz 4
    have lz:=ax bz
    clear bz
    by_cases hlt2:j<nz
    ·obtain⟨b2,o2,hA2,hb2,hc2⟩:=ML (HZ3.out.up ((hG.out.trans uX.out).trans hG2.out)) (k:=j) (by rw[HNZ.out];exact hlt2)
     have hix2:=aJ (cap:=c3) Tryz.underlying39 Tryz.sizeOf3 hA2.out hlt2
     rw[Nat.mul_one] at hix2
     have hst:=Xq (by rw[HNZ.out];exact hlt2) hT.out
     generalize FX ids j=z at *
     have HST:=hide hst
     clear hst hA2 hT
     cases q
     ·by_cases hz:z=y0
      ·subst hz
       have HS2:=hide (HST.out.trans (by simp:(false||z==z)=true))
       clear HST
       go_wp2_with fail
       go_roundw
       case rel=>exact⟨j+1,true,by omega,rfl,by go_num,hide (hG2.out.trans gw),HS2⟩
       case measure=>simp[intOf];omega
      ·have HS2:=hide (HST.out.trans (by simp[hz]:(false||z==y0)=false))
       clear HST
       go_wp2_with fail
       go_roundw
       case rel=>exact⟨j+1,false,by omega,by simp[hz],by go_num,hide (hG2.out.trans gw),HS2⟩
       case measure=>simp[intOf];omega
     ·have HS2:=hide (HST.out.trans (by simp:(true||z==y0)=true))
      clear HST
      go_wp2_with fail
      go_roundw
      case rel=>exact⟨j+1,true,by omega,rfl,by go_num,hide (hG2.out.trans gw),HS2⟩
      case measure=>simp[intOf];omega
    ·obtain rfl:j=nz:=by omega
     cases q
     ·go_wp2_with fail
      go_roundw
      case rel=>exact⟨k+1,by omega,rfl,by go_num,hide (((hG.out.trans uX.out).trans hG2.out).trans gw)⟩
      case measure=>simp[intOf];omega
     ·by_cases hlo:y4<most
      rotate_left
      ·go_wp2_with fail
       go_roundw
       case rel=>exact⟨k+1,by omega,rfl,by go_num,hide (((hG.out.trans uX.out).trans hG2.out).trans gw)⟩
       case measure=>simp[intOf];omega
      ·have aga:Hid (y0∈(gY ss).map So.id):=hide (by
        have h1:=hT.out
        rw[<-HNZ.out,List.take_length] at h1
        obtain⟨z,h2,h3⟩:=List.any_eq_true.1 h1
        rw[ag6.out]
        rwa [beq_iff_eq.1 h3] at h2)
       go_wp2_with fail
       refine eG ?_
       intro W6 hW
       have RZ:Grew wr W6:=by rw[<-hW];exact gw
       have OO:Hid (Grew W5 W6):=hide (hG2.out.trans RZ)
       clear hW RZ z0 z4 lz hT
       go_loopw [26,142] (fun u i wy=>∃ (j:Nat) (q:Bool),j<=na/\u=.bool q/\i=.int .i64 j/\Hid (Grew W6 wy)/\Hid ((fa.take j).any (okC ⟨y0,y1,y2,y3,y4,y5,y6⟩)=q)) (fun _ i _=>na-(intOf i).toNat)
       case atStart=>exact⟨0,false,by omega,rfl,rfl,hide (Grew.refl _),hide rfl⟩
       case round =>
        obtain⟨j,q,hj,rfl,rfl,hG3,hT3⟩:=hrel
        by_cases hlt3:j<na
        ·have bz:=((OO.out.trans hG3.out).heap (ax HBY.out)).trans HBY.out
         have z0:=ag bz 0
         have z1:=ag bz 1
         have z2:=ag bz 2
         have z3:=ag bz 3
         have z4:=ag bz 4
         have z5:=ag bz 5
         have z6:=ag bz 6
         have lz:=ax bz
         clear bz
         have hgy:Grew W2 wr:=rU.out.trans (((hG.out.trans uX.out).trans OO.out).trans hG3.out)
         have hlt4:j<fa.length:=by rw[HNA.out];exact hlt3
         obtain⟨bf,of,hAf,hbf,fc⟩:=vW (HR2.out.up hgy) hlt4
         have hfr:=(HR2.out.up hgy).each _ (dL hlt4)
         have ai5:=aJ (cap:=c2) Tryz.underlying23 Tryz.sizeOf65 hAf.out hlt3
         have hst:=Xr hlt4 hT3.out
         obtain⟨o,ho⟩:∃o,mY (aP fa j) (uY ⟨y0,y1,y2,y3,y4,y5,y6⟩)=o:=⟨_,rfl⟩
         have hok:okC ⟨y0,y1,y2,y3,y4,y5,y6⟩ (aP fa j)=((o.2==0&&o.1)&&decide ((aP fa j).dep<=y4)):=by unfold okC;rw[ho]
         rw[hok] at hst
         have k5:=hide (fun W=>J7 ⟨y0,y1,y2,y3,y4,y5,y6⟩ W)
         have k6:=hide (fun W (hg:Grew wr W)=>MG (aP fa j) (uY ⟨y0,y1,y2,y3,y4,y5,y6⟩) o W (hfr.up hg) (Ac _ _ _) ho)
         have HST:=hide hst
         rw[oZ] at k5 k6
         obtain⟨x0,x1,x2,x3,x4,x5,x6,x7,x8⟩:=fc
         clear ho hok hst hfr hAf hlt4 hgy
         generalize aP fa j=f at *
         obtain⟨id,kind,x,y,dn,aA,ac,area,dep,sym,sA,sc,secs⟩:=f
         unfold FV.val at k6
         obtain⟨o1,o2⟩:=o
         dsimp only at *
         generalize area.length=nx at *
         generalize secs.length=nn at *
         have hcase:q=true\/(q=false/\(o2==0)=false)\/(q=false/\o2=0/\o1=false)\/(q=false/\o2=0/\o1=true/\dep<=y4)\/(q=false/\o2=0/\o1=true/\¬ dep<=y4):=by by_cases h2:o2=0<;>by_cases h3:dep<=y4<;>cases o1<;>cases q<;>simp[h2,h3]
         rcases hcase with rfl|⟨rfl,h2⟩|⟨rfl,rfl,rfl⟩|⟨rfl,rfl,rfl,h3⟩|⟨rfl,rfl,rfl,h3⟩
         ·have HS2:=hide (HST.out.trans (by simp:_=true))
          clear HST
          go_wp2_with fail
          refine ay 9 [] [] hm (h:=?_)
          repeat (refine au (fun K hK=>?_);go_simp;first|(refine hK _ ?_;clear hK K)|(apply Exists.intro;refine⟨fun _=>?_,hK _ ?_⟩;(first|(go_at_call 21;with_reducible exact k5.out _)|(go_at_call 20;with_reducible exact k6.out _ gw));clear hK K))
          refine kZ fun nq osq=>?_
          try simp only[Act.put,aG]
          try dsimp only
          go_wp2_with fail
          go_roundw
          case rel=>exact⟨j+1,true,by omega,rfl,by go_num,hide (hG3.out.trans gw),HS2⟩
          case measure=>simp[intOf];omega
         ·have HS2:=hide (HST.out.trans (by simp[h2]:_=false))
          have h2':¬ (o2==0)=true:=by simpa using h2
          clear HST
          go_wp2_with fail
          refine ay 9 [] [] hm (h:=?_)
          repeat (refine au (fun K hK=>?_);go_simp;first|(refine hK _ ?_;clear hK K)|(apply Exists.intro;refine⟨fun _=>?_,hK _ ?_⟩;(first|(go_at_call 21;with_reducible exact k5.out _)|(go_at_call 20;with_reducible exact k6.out _ gw));clear hK K))
          refine kZ fun nq osq=>?_
          try simp only[Act.put,aG]
          try dsimp only
          go_wp2_with fail
          go_roundw
          case rel=>exact⟨j+1,false,by omega,by simp[*],by go_num,hide (hG3.out.trans gw),HS2⟩
          case measure=>simp[intOf];omega
         ·have HS2:=hide (HST.out.trans (by simp:_=false))
          clear HST
          go_wp2_with fail
          refine ay 9 [] [] hm (h:=?_)
          repeat (refine au (fun K hK=>?_);go_simp;first|(refine hK _ ?_;clear hK K)|(apply Exists.intro;refine⟨fun _=>?_,hK _ ?_⟩;(first|(go_at_call 21;with_reducible exact k5.out _)|(go_at_call 20;with_reducible exact k6.out _ gw));clear hK K))
          refine kZ fun nq osq=>?_
          try simp only[Act.put,aG]
          try dsimp only
          go_wp2_with fail
          go_roundw
          case rel=>exact⟨j+1,false,by omega,rfl,by go_num,hide (hG3.out.trans gw),HS2⟩
          case measure=>simp[intOf];omega
         ·have HS2:=hide (HST.out.trans (by simp[h3]:_=true))
          clear HST
          go_wp2_with fail
          refine ay 9 [] [] hm (h:=?_)
          repeat (refine au (fun K hK=>?_);go_simp;first|(refine hK _ ?_;clear hK K)|(apply Exists.intro;refine⟨fun _=>?_,hK _ ?_⟩;(first|(go_at_call 21;with_reducible exact k5.out _)|(go_at_call 20;with_reducible exact k6.out _ gw));clear hK K))
          refine kZ fun nq osq=>?_
          try simp only[Act.put,aG]
          try dsimp only
          go_wp2_with fail
          go_roundw
          case rel=>exact⟨j+1,true,by omega,by simp[h3],by go_num,hide (hG3.out.trans gw),HS2⟩
          case measure=>simp[intOf];omega
         ·have HS2:=hide (HST.out.trans (by simp[h3]:_=false))
          clear HST
          go_wp2_with fail
          refine ay 9 [] [] hm (h:=?_)
          repeat (refine au (fun K hK=>?_);go_simp;first|(refine hK _ ?_;clear hK K)|(apply Exists.intro;refine⟨fun _=>?_,hK _ ?_⟩;(first|(go_at_call 21;with_reducible exact k5.out _)|(go_at_call 20;with_reducible exact k6.out _ gw));clear hK K))
          refine kZ fun nq osq=>?_
          try simp only[Act.put,aG]
          try dsimp only
          go_wp2_with fail
          go_roundw
          case rel=>exact⟨j+1,false,by omega,by simp[h3],by go_num,hide (hG3.out.trans gw),HS2⟩
          case measure=>simp[intOf];omega
        ·obtain rfl:j=na:=by omega
         have hq:q=true:=by
          obtain⟨cc,hcc,h1,h2⟩:=KE HV.out (by rw[HMD.out];exact HPR.out) HME.out aga.out hlo
          rw[<-hT3.out,<-HNA.out,List.take_length,List.any_eq_true]
          refine⟨cc,hcc,?_⟩
          unfold okC
          rw[h1]
          simp only[beq_self_eq_true,Bool.true_and,decide_eq_true_eq]
          exact h2
         subst hq
         go_wp2_with fail
         go_roundw
         case rel=>exact⟨k+1,by omega,rfl,by go_num,hide ((((hG.out.trans uX.out).trans OO.out).trans hG3.out).trans gw)⟩
         case measure=>simp[intOf];omega
  ·obtain rfl:k=n:=by omega
   have hgk:Grew w wr:=HGT.out.trans hG.out
   have RX:Grew W2 wr:=rU.out.trans hG.out
   obtain⟨⟨is,ka⟩,ha⟩:∃u,oK ss fs (p1,p2) d=u:=⟨_,rfl⟩
   obtain⟨⟨there,kl⟩,hs⟩:∃u,jI fa most (p1,p2)=u:=⟨_,rfl⟩
   have kal:=hide (fun W (hg:Grew wr W)=>XV ss fs A A' c c' (p1,p2) d (is,ka) W (HRS.out.up (hgk.trans hg)) (HR.out.up (hgk.trans hg)) (by rw[HN.out];omega) (by rw[HN'.out];omega) ha)
   have TU:=hide (fun W (hg:Grew wr W)=>Ff fa A2 c2 most (p1,p2) (there,kl) W (HR2.out.up (RX.trans hg)) (by rw[HNA.out];omega) hs)
   rw[HN.out,HN'.out] at kal
   rw[HNA.out] at TU
   unfold XW at kal
   dsimp only at kal TU
   have ab3:=KG (p:=(p1,p2)) (d:=d) HV.out HPR.out.lg HPR.out.lm
   rw[ha,hs] at ab3
   dsimp only at ab3
   have b4:=(hG.out.heap (ax HB4.out)).trans HB4.out
   have b5:=(hG.out.heap (ax HB5.out)).trans HB5.out
   have e0:=ag b4 0
   have e1:=ag b4 1
   have d0:=ag b5 0
   have d1:=ag b5 1
   have l4:=ax b4
   have l5:=ax b5
   have TM:=hide hgk
   have ag9:=hide RX
   have HA:=hide ha
   have HS:=hide hs
   clear b4 b5 hgk RX ha hs
   rcases ab3 with⟨rfl,rfl⟩|⟨rfl,rfl⟩
   ·obtain⟨V3,N9⟩:=KF HV.out (by rw[HMD.out];exact HPR.out) HA.out HS.out
    rw[HMD.out] at N9
    have HK:=hide N9
    clear N9
    cases is
    ·go_wp2_with (first|(go_at_call 16;with_reducible refine aT (kal.out _ gw) fun _ _=>?_;dsimp only)|(go_at_call 22;with_reducible refine aT (TU.out _ gw) fun _ _=>?_;dsimp only))
     go_ret
     exact aB.mk' (by simp[V3]) (TM.out.trans gw)
    ·obtain⟨kv,hkv⟩:∃b,IQ md (p1,p2)=b:=⟨_,rfl⟩
     have kkn:=hide (fun W (hg:Grew W1 W)=>YL md A1 c1 (p1,p2) kv W (HR1.out.up hg) (by rw[HNM.out];omega) hkv)
     rw[HNM.out] at kkn
     dsimp only at kkn
     have HGM:Hid (Grew W1 wr):=hide (HG2.out.trans ag9.out)
     have HKV:=hide hkv
     clear hkv
     cases kv
     ·go_wp2_with (first|(go_at_call 16;with_reducible refine aT (kal.out _ gw) fun _ _=>?_;dsimp only)|(go_at_call 22;with_reducible refine aT (TU.out _ gw) fun _ _=>?_;dsimp only)|(go_at_call 17;with_reducible refine aT (kkn.out _ (HGM.out.trans gw)) fun _ _=>?_;dsimp only))
      go_ret
      exact aB.mk' (by simp[V3]) (TM.out.trans gw)
     ·have htd:there<=d:=HK.out rfl HKV.out
      go_wp2_with (first|(go_at_call 16;with_reducible refine aT (kal.out _ gw) fun _ _=>?_;dsimp only)|(go_at_call 22;with_reducible refine aT (TU.out _ gw) fun _ _=>?_;dsimp only)|(go_at_call 17;with_reducible refine aT (kkn.out _ (HGM.out.trans gw)) fun _ _=>?_;dsimp only))
      go_ret
      exact aB.mk' (by simp[V3,htd]) (TM.out.trans gw)
   ·go_wp2_with (first|(go_at_call 16;with_reducible refine aT (kal.out _ gw) fun _ _=>?_;dsimp only)|(go_at_call 22;with_reducible refine aT (TU.out _ gw) fun _ _=>?_;dsimp only))
    go_ret
    exact aB.mk' rfl (TM.out.trans gw)
end Go.Proofs.YtlkgjmnjhifehaaGreat
