
import Derived.Test.YtlkgjmnjhifehaaGreatSvY
import Derived.Test.YtlkgjmnjhifehaaGreatGrX
import Derived.Test.YtlkgjmnjhifehaaGreatDrB
import Derived.Test.YtlkgjmnjhifehaaGreatGeT
import Derived.Test.YtlkgjmnjhifehaaGreatGrY
import Derived.Test.YtlkgjmnjhifehaaGreatGrZ
import Derived.Test.YtlkgjmnjhifehaaGreatRuZ
set_option linter.unusedSimpArgs false
set_option linter.unusedVariables false
set_option maxHeartbeats 8000000
set_option maxRecDepth 100000
namespace Go.Proofs.YtlkgjmnjhifehaaGreat
open Go.RowKit Go.Sort
attribute [local go_sem] dA steadyUpon
attribute [local go_sem ↓] bU bI aX aW aV aU aT
attribute [local go_sem] bH aK aJ size_grow tape_grow cell?_grow' aF aB grow_grow bW aY dR cO bY bK aN cZ aZ bZ bJ
attribute [local irreducible] wpSteady
theorem QY {xs ys:List Int}{k:Nat}(hx:k<xs.length)(hy:k<ys.length)(h:xs.take k=ys.take k):(xs.take (k+1)=ys.take (k+1))↔xH xs k=xH ys k:=by
 rw[List.take_add_one,List.take_add_one,h,yK hx,yK hy]
 simp
theorem J8 (xs ys:List Int)(A A':Option Addr)(c c':Nat)(r:Bool)(w:World)(hx:Rd w w.heap.size 1 A (xs.map encZ))(hy:Rd w w.heap.size 1 A' (ys.map encZ))(hl:xs.length<=100000000)(hl':ys.length<=100000000)(h:decide (xs=ys)=r) :
  Calls Tryz.prog 23 #[.slice A xs.length c,.slice A' ys.length c'] w (aC w (.bool r)):=by
 have hm:=aP
 have HX:=hide hx
 have HY:=hide hy
 clear hx hy
 by_cases hne:xs.length=ys.length
 ·obtain⟨n,hn⟩:∃n,ys.length=n:=⟨_,rfl⟩
  have HN:Hid (ys.length=n):=hide hn
  have HM:Hid (xs.length=n):=hide (hne.trans hn)
  rw[hne,hn]
  rw[hn] at hl'
  have HH:=hide h
  clear hne hn hl h
  go_enter Tryz.func23,Tryz.ntmps23
  go_wp2_with fail
  go_loopw [5] (fun i wr=>∃k:Nat,k<=n/\i=.int .i64 k/\Hid (Grew w wr)/\Hid (xs.take k=ys.take k)) (fun i _=>n-(intOf i).toNat)
  case atStart=>exact⟨0,by omega,rfl,hide gw,hide rfl⟩
  case round =>
   obtain⟨k,hk,rfl,hG,hT⟩:=hrel
   by_cases hlt:k<n
   ·obtain⟨b1,o1,hA,hb1,hc1⟩:=Hz (HX.out.up hG.out) (k:=k) (by rw[HM.out];exact hlt)
    obtain⟨b2,o2,hA2,hb2,hc2⟩:=Hz (HY.out.up hG.out) (k:=k) (by rw[HN.out];exact hlt)
    have ix1:=aO (cap:=c) Tryz.underlying39 Tryz.sizeOf3 hA.out hlt
    have ix2:=aO (cap:=c') Tryz.underlying39 Tryz.sizeOf3 hA2.out hlt
    rw[Nat.mul_one] at ix1 ix2
    have hst:=QY (by rw[HM.out];exact hlt) (by rw[HN.out];exact hlt) hT.out
    obtain⟨x,hx⟩:∃x,xH xs k=x:=⟨_,rfl⟩
    obtain⟨y,hy⟩:∃x,xH ys k=x:=⟨_,rfl⟩
    rw[hx] at hc1 hst
    rw[hy] at hc2 hst
    have HST:=hide hst
    clear hst hx hy hA hA2
    by_cases hxy:x=y
    ·have hT2:=hide (HST.out.2 hxy)
     clear HST
     subst hxy
     go_wp2_with fail
     refine ay 9 [] [] hm (h:=?_)
     repeat (refine ax (fun K hK=>?_);go_simp;refine hK _ ?_;clear hK K)
     refine lU fun nq osq=>?_
     try simp only[Act.put,aG]
     try dsimp only
     go_wp2_with fail
     go_roundw
     case rel=>exact⟨k+1,by omega,by go_num,hide (hG.out.trans gw),hT2⟩
     case measure=>simp[intOf];omega
    ·have hr:r=false:=by
      rw[<-HH.out,decide_eq_false_iff_not]
      intro e
      exact hxy (HST.out.1 (by rw[e]))
     subst hr
     go_wp2_with fail
     refine ay 9 [] [] hm (h:=?_)
     repeat (refine ax (fun K hK=>?_);go_simp;refine hK _ ?_;clear hK K)
     refine lU fun nq osq=>?_
     try simp only[Act.put,aG]
     try dsimp only
     go_wp2_with fail
     go_ret
     exact aC.mk' rfl (hG.out.trans gw)
   ·obtain rfl:k=n:=by omega
    have hr:r=true:=by
     rw[<-HH.out,decide_eq_true_eq]
     have:=hT.out
     rw[List.take_of_length_le (by rw[HM.out];exact Nat.le_refl _),List.take_of_length_le (by rw[HN.out];exact Nat.le_refl _)] at this
     exact this
    subst hr
    go_wp2_with fail
    go_ret
    exact aC.mk' rfl hG.out
 ·have hr:r=false:=by
   rw[<-h,decide_eq_false_iff_not]
   intro e
   exact hne (by rw[e])
  subst hr
  clear h HX HY
  generalize xs.length=n1 at *
  generalize ys.length=n2 at *
  go_enter Tryz.func23,Tryz.ntmps23
  go_wp2_with fail
  go_ret
  exact aC.mk' rfl gw
theorem YK (n n' c c':Nat)(A A':Option Addr)(r:Bool)(w:World)(h:decide (n<=16/\n'<=12)=r):Calls Tryz.prog 6 #[svV A n c A' n' c'] w (aC w (.bool r)):=by
 have hm:=aP
 unfold svV
 have hcase:¬ n<=16\/(n<=16/\n'<=12)\/(n<=16/\¬ n'<=12):=by omega
 rcases hcase with h1|⟨h1,h2⟩|⟨h1,h2⟩
 all_goals
  simp[h1] at h
  try simp[h2] at h
  subst h
  go_enter Tryz.func6,Tryz.ntmps6
  go_wp2_with fail
  go_ret
  exact aC.mk' (by simp<;>omega) gw
theorem TL {q:FV->Bool}{fs:List FV}{k:Nat}(hk:k<fs.length)(h:(fs.take k).any q=false):(fs.take (k+1)).any q=q (bF fs k):=by
 rw[List.take_add_one,dI hk,List.any_append,h]
 simp
def OA (p:Pt)(f:FV):Bool:=(lW f p).2==0&&(lW f p).1
def Dl (fs:List FV)(p:Pt):Bool:=fs.any (OA p)
theorem Y4 (fs:List FV)(A:Option Addr)(c:Nat)(p:Pt)(r:Bool)(w:World)(hr:nI w w.heap.size A fs)(hc:fs.length<=100000000000000)(h:Dl fs p=r) :
  Calls Tryz.prog 17 #[.slice A fs.length c,pt p.1 p.2] w (aC w (.bool r)):=by
 have hm:=aP
 have HR:=hide hr
 have HH:=hide h
 clear hr h
 obtain⟨p1,p2⟩:=p
 dsimp only
 go_enter Tryz.func17,Tryz.ntmps17
 go_wp2_with fail
 refine fC ?_
 intro W4 hW
 have hg4:Grew w W4:=by rw[<-hW];exact gw
 have hbp:W4.heap[w.heap.size]?=some (.cells #[.int .i64 p1,.int .i64 p2] 28 (0,0)):=by rw[<-hW];exact heap_alloc_new _ _
 have qK:=hide hg4
 have X5:=hide hbp
 clear hW hg4 hbp
 go_loopw [11] (fun i wz=>∃ (k:Nat),k<=fs.length/\i=.int .i64 k/\Hid (Grew W4 wz)/\Hid ((fs.take k).any (OA (p1,p2))=false)) (fun i _=>fs.length-(intOf i).toNat)
 case atStart=>exact⟨0,by omega,rfl,hide (Grew.refl _),hide rfl⟩
 case round =>
  obtain⟨k,hk,rfl,hG,hA⟩:=hrel
  have bp:=(hG.out.heap (au X5.out)).trans X5.out
  have e0:=ag bp 0
  have e1:=ag bp 1
  have lp:=au bp
  clear bp
  by_cases hlt:k<fs.length
  ·obtain⟨b,off,hA',hb,fc⟩:=yD (HR.out.up (qK.out.trans hG.out)) hlt
   have hfr:=(HR.out.up (qK.out.trans hG.out)).each _ (dQ hlt)
   have hix:=aO (cap:=c) Tryz.underlying23 Tryz.sizeOf65 hA'.out hlt
   have hs1:=TL (q:=OA (p1,p2)) hlt hA.out
   have hmm:=dQ hlt
   obtain⟨o,ho⟩:∃o,lW (bF fs k) (p1,p2)=o:=⟨_,rfl⟩
   have hok:OA (p1,p2) (bF fs k)=(o.2==0&&o.1):=by unfold OA;rw[ho]
   have k5:=hide (fun W (hg:Grew wr W)=>Fp (bF fs k) (p1,p2) o W (hfr.up hg) ho)
   have JD:Hid (OA (p1,p2) (bF fs k)=true->r=true):=hide fun e=>by rw[<-HH.out];exact List.any_eq_true.2 ⟨_,hmm,e⟩
   rw[hok] at hs1 JD
   have TY:=hide hs1
   obtain⟨x0,x1,x2,x3,x4,x5,x6,x7,x8⟩:=fc
   clear ho hok hs1 hmm hfr hA'
   generalize bF fs k=f at *
   obtain⟨id,kind,x,y,dC,aA,ac,area,dep,sym,sA,sc,secs⟩:=f
   unfold FV.val at k5
   obtain⟨o1,o2⟩:=o
   dsimp only at *
   generalize area.length=na at *
   generalize secs.length=nn at *
   have hcase:(o2=0/\o1=true)\/(o2=0/\o1=false)\/(o2==0)=false:=by by_cases h2:o2=0<;>cases o1<;>simp[h2]
   rcases hcase with⟨rfl,rfl⟩|⟨rfl,rfl⟩|h2
   ·have hr:=JD.out rfl
    subst hr
    go_wp2_with (go_at_call 51;with_reducible refine aQ (k5.out _ gw) fun _ _=>?_;dsimp only)
    go_ret
    exact aC.mk' rfl ((qK.out.trans hG.out).trans gw)
   ·have HN:=hide (TY.out.trans (rfl:((0:Int)==0&&false)=false))
    clear TY JD
    go_wp2_with (go_at_call 51;with_reducible refine aQ (k5.out _ gw) fun _ _=>?_;dsimp only)
    go_roundw
    case rel=>exact⟨k+1,by omega,by go_num,hide (hG.out.trans gw),HN⟩
    case measure=>simp[intOf];omega
   ·have HN:=hide (TY.out.trans (by rw[h2];rfl:(o2==0&&o1)=false))
    clear TY JD
    go_wp2_with (go_at_call 51;with_reducible refine aQ (k5.out _ gw) fun _ _=>?_;dsimp only)
    go_roundw
    case rel=>exact⟨k+1,by omega,by go_num,hide (hG.out.trans gw),HN⟩
    case measure=>simp[intOf];omega
  ·obtain rfl:k=fs.length:=by omega
   have hr:r=false:=by
    rw[<-HH.out]
    have:=hA.out
    rw[List.take_length] at this
    exact this
   subst hr
   go_wp2_with fail
   go_ret
   exact aC.mk' rfl (qK.out.trans hG.out)
end Go.Proofs.YtlkgjmnjhifehaaGreat
namespace Go.Proofs.YtlkgjmnjhifehaaGreat
open Go.RowKit Go.Sort
theorem Ri {fs:List FV}(h:CS fs){f g:FV}(hf:f∈fs)(hg:g∈fs)(he:f.id=g.id):f=g:=by
 obtain⟨i,hi,rfl⟩:=kT hf
 obtain⟨j,hj,rfl⟩:=kT hg
 rcases Nat.lt_trichotomy i j with h1|rfl|h1
 ·have:=Ik h h1 hj;omega
 ·rfl
 ·have:=Ik h h1 hi;omega
theorem JX (p:Pt):∀ (gs:List FV) (l:Int),gs.foldl (gG p) l<=l/\∀g∈gs,fP g p=true->gs.foldl (gG p) l<=g.dep
 | [],l=>⟨Int.le_refl _,fun g hg=>by cases hg⟩
 | f::gs,l=>by
  obtain⟨h1,h2⟩:=JX p gs (gG p l f)
  have hs:gG p l f<=l:=by
   unfold gG
   split
   ·rename_i h;rw[Bool.and_eq_true,decide_eq_true_eq] at h;omega
   ·exact Int.le_refl _
  refine⟨Int.le_trans h1 hs,fun g hg hc=>?_⟩
  rcases List.mem_cons.1 hg with rfl|hg
  ·refine Int.le_trans h1 ?_
   unfold gG
   by_cases hd:g.dep<l
   ·rw[if_pos (by rw[hc,decide_eq_true hd];rfl)];exact Int.le_refl _
   ·rw[if_neg (by rw[decide_eq_false hd];simp)];omega
  ·exact h2 g hg hc
theorem Rx {fs gs:List FV}{lim:Int}{ps:List Pt}(h:uT fs gs lim ps)(hr:CS fs){f:FV}(hf:f∈fs)(hc:countB f lim=true):∃g∈gs,je f g=true:=by
 obtain⟨p,hp,he⟩:=h.cov f hf hc
 obtain⟨f',hf',g,hg,h1,h2,h3⟩:=h.good p hp
 obtain rfl:f'=f:=Ri hr hf' hf (by rw[h1,he])
 exact⟨g,hg,h3⟩
theorem KJ {ss:List So}{fs ch:List FV}{most d there:Int}{MP:List Pt}{p:Pt}{is:Bool}(hs:oV ss fs=true)(hp:uT (dH fs (jC ss) (jC ss).length) ch most MP)
  (ha:qG ss fs p d=(is,0)) (ht:kU ch most p=(there,0)):there<=most/\(is=true->Dl (dH fs (jC ss) (jC ss).length) p=true->there<=d):=by
 unfold kU at ht
 by_cases hc:(bQ ch&&(sS most&&p.ok))=true
 ·rw[if_pos hc] at ht
  rw[Bool.and_eq_true,Bool.and_eq_true] at hc
  injection ht with ht _
  refine⟨by omega,fun his hk=>?_⟩
  unfold qG at ha
  rw[if_pos (by rw[hs,hc.2.2];rfl)] at ha
  injection ha with ha _
  rw[his,Bool.and_eq_true,Bool.and_eq_true] at ha
  obtain⟨f,hf,hcv⟩:=List.any_eq_true.1 hk
  unfold OA at hcv
  rw[Bool.and_eq_true] at hcv
  have hfd:f.dep<=d:=by
   rcases Gy.1 hf with h1|⟨x,h1,rfl⟩
   ·have:=List.all_eq_true.1 ha.2.2 f h1
    unfold IA at this
    rw[hcv.2] at this
    simp at this
    exact this
   ·have:=List.all_eq_true.1 ha.2.1 x h1
    unfold okS at this
    rw[hcv.2] at this
    simp at this
    exact this.1
  have hml:=Ef hs
  have hcov:fP f p=true:=by
   have:=hcv.2
   unfold lW at this
   split at this
   ·exact this
   ·cases this
  by_cases hm:most<=f.dep
  ·omega
  ·obtain⟨g,hg,hmet⟩:=Rx hp (CZ hml) hf (by unfold countB;rw[Bool.or_eq_true];exact .inr (decide_eq_true (by omega)))
   obtain⟨h1,h2⟩:=Y0 hmet hc.2.2 hcov
   have h3:=(JX p ch 100000).2 g hg h1
   unfold kY at ht
   rw[List.take_length] at ht
   omega
 ·rw[if_neg hc] at ht
  injection ht with _ ht
  cases ht
end Go.Proofs.YtlkgjmnjhifehaaGreat
namespace Go.Proofs.YtlkgjmnjhifehaaGreat
open Go.RowKit Go.Sort Go.Lib
def so1:So:=⟨1,0,0,5,27,31,1⟩
def OH:FV:={ id:=1,kind:=1,x:=0,y:=0,dC:=5,aA:=none,ac:=0,area:=[],dep:=20,sym:=0,sA:=none,sc:=0,secs:=[] }
theorem yl {gw gh:Nat}{cs:List Int}{need:Int}{s:QS}{k:Nat}{o:List Int}(h:oW gw gh cs need k s=(o,[])):∀j,oW gw gh cs need (k+j) s=(o,[])
 | 0=>h
 | j+1=>by
  show J9 gw gh cs need (oW gw gh cs need (k+j) s)=_
  rw[yl h j]
  rfl
theorem Rt {gw gh:Nat}{cs:List Int}{need:Int}{s:QS}{k k':Nat}{o o':List Int}(h:oW gw gh cs need k s=(o,[]))(h':oW gw gh cs need k' s=(o',[])):o=o':=by
 have h1:=yl h k'
 have h2:=yl h' k
 rw[Nat.add_comm] at h2
 rw[h1] at h2
 injection h2
def EM:List Int:=[20,20,100000,20,20,100000]
theorem y1:uo [so1] []=([Ae so1],0):=by kernel_rfl
theorem y2:kE [Ae so1] [(2,1,10)]=(([OH],[(1,1)]),0):=by kernel_rfl
def chG (a:Option Addr)(n:Nat)(b:Option Addr)(m:Nat):FV:={ OH with aA:=a,ac:=n,sA:=b,sc:=m }
theorem TC {gs:List FV}(h:[OH].map FV.bare=gs.map FV.bare):∃a n b m,gs=[chG a n b m]:=by
 cases gs with
 | nil=>simp at h
 | cons g gs =>
  cases gs with
  | nil =>
   simp only[List.map_cons,List.map_nil,List.cons.injEq,and_true] at h
   exact⟨g.aA,g.ac,g.sA,g.sc,by rw[OM h];rfl⟩
  | cons _ _=>simp at h
theorem z3 (a:Option Addr)(n:Nat)(b:Option Addr)(m:Nat):kU [chG a n b m] 100000 (0,0)=(20,0):=by kernel_rfl
theorem z4 (a:Option Addr)(n:Nat)(b:Option Addr)(m:Nat):kU [chG a n b m] 100000 (6,0)=(100000,0):=by kernel_rfl
theorem z5 (a:Option Addr)(n:Nat)(b:Option Addr)(m:Nat):gridOf [chG a n b m] (-10) (-10) 10 3 2=EM:=by kernel_rfl
theorem z6 (a:Option Addr)(n:Nat)(b:Option Addr)(m:Nat):fA (-10) (-10) 10 3 2=true/\bQ [chG a n b m]=true:=⟨by kernel_rfl,by kernel_rfl⟩
theorem z9 (A:Option Addr)(c:Nat):vT ⟨-10,-10,10,3,2,A,c,EM⟩ 21=true:=by kernel_rfl
theorem y3:kU [OH] 100000 (0,0)=(20,0):=by kernel_rfl
theorem y4:kU [OH] 100000 (6,0)=(100000,0):=by kernel_rfl
theorem y5:gridOf [OH] (-10) (-10) 10 3 2=EM:=by kernel_rfl
theorem y6:(fA (-10) (-10) 10 3 2&&bQ [OH])=true:=by kernel_rfl
theorem y7:oW 3 2 EM 21 6 (kz 6 5)=([-1,-1,1,-1,-1,0],[]):=by kernel_rfl
theorem y8:vH [-1,-1,1,-1,-1,0] 3 2 2=[2,5]:=by kernel_rfl
set_option maxHeartbeats 16000000
set_option maxRecDepth 100000
attribute [local go_sem] dA steadyUpon
attribute [local go_sem ↓] bU bI aX aW aV aU aT
attribute [local go_sem] bH aK aJ size_grow tape_grow cell?_grow' aF aB grow_grow bW aY dR cO bY bK aN cZ aZ bZ bJ
attribute [local irreducible] wpSteady
theorem WS (w:World):Calls Tryz.prog 5 #[] w (aC w (.bool true)):=by
 have hm:=aP
 go_enter Tryz.func5,Tryz.ntmps5
 go_wp2_with fail
 refine ny ?_
 intro X hX
 have HX:Hid (Grew w X):=hide (by rw[<-hX];exact gw)
 have HS:Hid (Rd X X.heap.size 7 (some ⟨w.heap.size,0,none⟩) ([so1].map So.cells)):=hide (by rw[<-hX];exact Rd.ae5 Au [so1] ((heap_alloc_old _ _ (by simp)).trans (heap_alloc_new _ _)) rfl)
 clear hX
 have k:=JB [so1] [] (some ⟨w.heap.size,0,none⟩) none 1 0 X HS.out ⟨Rd.nil _ _ _ _,fun f hf=>by cases hf⟩ (by decide) (by decide)
 rw[y1] at k
 refine k.mono ?_
 clear k HS
 rintro e W1 ⟨A1,c1,rfl,hr1,hg1⟩
 have jE:Hid (Grew w W1):=hide (HX.out.trans hg1)
 have HR1:=hide hr1
 clear hr1 hg1 HX
 dsimp only
 go_wp2_with fail
 refine ny ?_
 intro X hX
 have HX:Hid (Grew W1 X):=hide (by rw[<-hX];exact gw)
 have HRU:Hid (Rd X X.heap.size 3 (some ⟨W1.heap.size,0,none⟩) (([(2,1,10)]:List Ru).map encR)):=hide (by rw[<-hX];exact Rd.ae5 Ll [(2,1,10)] (heap_alloc_new _ _) rfl)
 clear hX
 have k:=OY [Ae so1] [(2,1,10)] A1 (some ⟨W1.heap.size,0,none⟩) c1 1 X (HR1.out.up HX.out) HRU.out (by decide) (by decide)
 rw[y2] at k
 refine k.mono ?_
 clear k HRU
 rintro e W2 ⟨A2,c2,fa,B2,d2,rfl,hb,hr2,_,hg2⟩
 obtain⟨a,na,b,nb,rfl⟩:=TC hb.symm
 have HG2:Hid (Grew w W2):=hide ((jE.out.trans HX.out).trans hg2)
 have HR2:=hide hr2
 clear hb hr2 hg2 HX jE HR1
 have k1:=hide (fun W (hg:Grew W2 W)=>MO [chG a na b nb] A2 c2 100000 (0,0) (20,0) W (HR2.out.up hg) (by simp) (z3 a na b nb))
 have k2:=hide (fun W (hg:Grew W2 W)=>MO [chG a na b nb] A2 c2 100000 (6,0) (100000,0) W (HR2.out.up hg) (by simp) (z4 a na b nb))
 dsimp only[List.length_cons,List.length_nil] at k1 k2 ⊢
 go_wp2_with (first|(go_at_call 22;with_reducible refine aQ (k1.out _ gw) fun _ _=>?_;dsimp only)|(go_at_call 22;with_reducible refine aQ (k2.out _ gw) fun _ _=>?_;dsimp only))
 refine ny ?_
 intro X hX
 have HX:Hid (Grew W2 X):=hide (by rw[<-hX];exact gw)
 clear hX k1 k2
 have k:=MG [chG a na b nb] A2 c2 (-10) (-10) 10 3 2 X (HR2.out.up HX.out) (z6 a na b nb).1 (z6 a na b nb).2
 rw[z5] at k
 refine k.mono ?_
 clear k
 rintro e W3 ⟨A3,c3,rfl,hc3,hr3,hg3⟩
 have vF:Hid (Grew w W3):=hide ((HG2.out.trans HX.out).trans hg3)
 have HR3:=hide hr3
 clear hr3 hg3 HX HG2 HR2
 have e6:EM.length=6:=rfl
 unfold Gr.val
 dsimp only
 simp only[e6]
 have ka:=hide (fun W (hg:Grew W3 W)=>OU (-10) (-10) 10 3 2 A3 c3 EM 21 2 5 W (HR3.out.up hg) (by decide) (by decide) rfl (by decide) (by decide) (z9 A3 c3))
 have kb:=hide (fun W (hg:Grew W3 W)=>OU (-10) (-10) 10 3 2 A3 c3 EM 21 0 2 W (HR3.out.up hg) (by decide) (by decide) rfl (by decide) (by decide) (z9 A3 c3))
 go_wp2_with fail
 refine (ka.out _ gw).mono ?_
 rintro e W4 ⟨k4,o4,hk4,hg4,hres⟩
 obtain rfl:o4=[-1,-1,1,-1,-1,0]:=Rt hk4 y7
 rcases hres with⟨hbad,_⟩|⟨_,A4,c4,rfl,hr4⟩
 ·exact absurd hbad (by decide)
 simp only[y8] at hr4 ⊢
 have hb4:=(hg4.heap (by simp)).trans (heap_alloc_new W3 _)
 have adb:Hid (Grew W3 W4):=hide (Grew.trans gw hg4)
 have HR4:=hide hr4
 have HB4:=hide hb4
 have g0:=ag hb4 0
 have g1:=ag hb4 1
 have g2:=ag hb4 2
 have g3:=ag hb4 3
 have g4:=ag hb4 4
 have g5:=ag hb4 5
 have lg:=au hb4
 clear hk4 hg4 hr4 hb4 ka
 dsimp only[List.length_cons,List.length_nil]
 go_wp2_with fail
 refine (kb.out _ (adb.out.trans gw)).mono ?_
 rintro e W5 ⟨k5,o5,_,hg5,hres⟩
 rcases hres with⟨_,rfl⟩|⟨⟨hbad,_⟩,_⟩
 rotate_left
 ·exact absurd hbad (by decide)
 have aau:Hid (Grew W4 W5):=hide (Grew.trans gw hg5)
 have hb5:=(aau.out.heap lg).trans HB4.out
 have vC:Hid (Grew w W5):=hide ((vF.out.trans adb.out).trans aau.out)
 clear g0 g1 g2 g3 g4 g5 lg hg5 kb
 have g5:=ag hb5 5
 have lg:=au hb5
 clear hb5
 dsimp only
 go_wp2_with fail
 refine ny ?_
 intro X hX
 have HX:Hid (Grew W5 X):=hide (by rw[<-hX];exact gw)
 have HB:Hid (Rd X X.heap.size 1 (some ⟨W5.heap.size,0,none⟩) (EM.map encZ)):=hide (by rw[<-hX];exact Rd.ae4 EM (heap_alloc_new _ _) rfl)
 clear hX
 have k:=J8 EM EM A3 (some ⟨W5.heap.size,0,none⟩) c3 6 true X (HR3.out.up ((adb.out.trans aau.out).trans HX.out)) HB.out (by decide) (by decide) (by decide)
 refine k.mono ?_
 clear k HB
 rintro e W6 ⟨rfl,Yh⟩
 have X4:Hid (Grew W5 W6):=hide (HX.out.trans Yh)
 clear Yh HX g5 lg
 dsimp only
 go_wp2_with fail
 refine ny ?_
 intro X hX
 have HX:Hid (Grew W6 X):=hide (by rw[<-hX];exact gw)
 have HB:Hid (Rd X X.heap.size 1 (some ⟨W6.heap.size,0,none⟩) (([2,5]:List Int).map encZ)):=hide (by rw[<-hX];exact Rd.ae4 [2,5] (heap_alloc_new _ _) rfl)
 clear hX
 have k:=J8 [2,5] [2,5] A4 (some ⟨W6.heap.size,0,none⟩) c4 2 true X (show Rd X X.heap.size 1 A4 (([2,5]:List Int).map encZ) from HR4.out.up ((aau.out.trans X4.out).trans HX.out)) HB.out (by decide) (by decide) (by decide)
 refine k.mono ?_
 clear k HB
 rintro e W7 ⟨rfl,hg7⟩
 have HG7:Hid (Grew w W7):=hide (((vC.out.trans X4.out).trans HX.out).trans hg7)
 clear hg7 HX
 dsimp only
 go_wp2_with fail
 go_ret
 exact aC.mk' rfl (HG7.out.trans gw)
end Go.Proofs.YtlkgjmnjhifehaaGreat
namespace Go.Proofs.YtlkgjmnjhifehaaGreat
theorem Y1 {f g:FV}{n:Int}(h:je f g=true)(hc:countB f n=true):countB g n=true:=by
 unfold countB at *
 rw[Bool.or_eq_true,decide_eq_true_eq,decide_eq_true_eq] at *
 by_cases hf:f.kind=4
 ·rw[xu hf] at h
  exact .inl h.2.2.1
 ·rw[pF hf] at h
  have:=h.2.2.2.1
  exact .inr (by omega)
theorem VY (fs:List FV)(rs:List Ru):(kE fs rs).2=(gQ rs fs).2/\(kE fs rs).1.1=if (gQ rs fs).2=0 then gu (gQ rs fs).1 (capOf rs).1 else []:=by
 rcases AA rs fs with⟨h0,h1,h2,h3,h4⟩|⟨h0,h1,h2⟩|⟨h0,h1⟩
 ·have hcl:=EW h3 (capOf rs).1
  have hlm:=Qy h1
  have hask:=L8 h2 hcl hlm
  have hu:vI fs (gu (gQ rs fs).1 (capOf rs).1) (bD fs (capOf rs).1 fs.length)=[]:=by
   rw[Pj hcl]
   intro f hf hc
   obtain⟨g,hg,m1,_⟩:=Nr h0 hf
   exact⟨g,XA hg (Y1 m1 hc),m1⟩
  have hp:(kZ fs (gu (gQ rs fs).1 (capOf rs).1) (capOf rs).1).2=0:=by
   unfold kZ
   rw[if_pos hask,if_pos hu]
  unfold kE
  rw[if_pos h0,if_pos hp,if_pos h0,h0]
  exact⟨rfl,rfl⟩
 ·have hne:(gQ rs fs).2≠0:=by rw[h0];decide
  unfold kE
  rw[if_neg hne,if_neg hne]
  exact⟨rfl,rfl⟩
 ·have hne:(gQ rs fs).2≠0:=by rw[h0];decide
  unfold kE
  rw[if_neg hne,if_neg hne]
  exact⟨rfl,rfl⟩
open Go.RowKit Go.Sort Go.Lib
theorem En {md ch:List FV}{rs:List Ru}{MP:List Pt}{f:Int}(hl:bQ md=true)(h:kE md rs=((ch,MP),f)):(f=0/\oN rs=true/\bQ ch=true/\uT md ch (capOf rs).1 MP)\/(f=3/\oN rs=true)\/(f=1/\oN rs=false):=by
 have h1:=(VY md rs).1
 rw[h] at h1
 dsimp only at h1
 rcases AA rs md with⟨h0,h2,_⟩|⟨h0,h2,_⟩|⟨h0,h2⟩
 ·rw[h0] at h1
  rcases NV h with⟨e,_⟩|⟨_,_,h3,h4,_⟩
  ·exact absurd h1 e
  ·exact .inl ⟨h1,h2,h3,h4⟩
 ·exact .inr (.inl ⟨h1.trans h0,h2⟩)
 ·refine .inr (.inr ⟨h1.trans h0,?_⟩)
  cases hr:oN rs with
  | false=>rfl
  | true=>exact absurd ⟨hr,hl⟩ h2
theorem XB {rs:List Ru}{most g:Int}(h:capOf rs=(most,g)):(oN rs=true/\g=0)\/(oN rs=false/\g=1):=by
 unfold capOf at h
 cases hr:oN rs
 ·rw[if_neg (by rw[hr];simp)] at h
  injection h with _ h
  exact .inr ⟨rfl,h.symm⟩
 ·rw[if_pos hr] at h
  injection h with _ h
  exact .inl ⟨rfl,h.symm⟩
end Go.Proofs.YtlkgjmnjhifehaaGreat
