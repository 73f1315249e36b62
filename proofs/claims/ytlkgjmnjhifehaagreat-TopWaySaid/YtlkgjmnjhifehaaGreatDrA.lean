/- What proofs prove, in plain words. What rules make of a list, and what Make makes, in plain words. The chapter's examples, by computing. -/
import Derived.Test.YtlkgjmnjhifehaaGreatDeG
set_option linter.unusedSimpArgs false
set_option linter.unusedVariables false
namespace Go.Proofs.YtlkgjmnjhifehaaGreat
open Go.RowKit Go.Sort
theorem abg {f:FV}{gs:List FV}(h:oL f gs≠0):∃g,g∈gs/\je f g=true/\g.id=oL f gs:=by
 unfold oL at *
 cases hc:gs.find? (je f) with
 | none=>rw[hc] at h;exact absurd rfl h
 | some g=>exact⟨g,List.mem_of_find?_eq_some hc,List.find?_some hc,rfl⟩
theorem XD {f:FV}{gs:List FV}(hv:bQ gs=true){g:FV}(hg:g∈gs)(hm:je f g=true):oL f gs≠0:=by
 unfold oL
 cases hc:gs.find? (je f) with
 | none =>
  rw[List.find?_eq_none] at hc
  exact absurd hm (hc g hg)
 | some g' =>
  have:=PZ hv (List.mem_of_find?_eq_some hc)
  show g'.id≠0
  omega
theorem jQ {fs:List FV}{lim:Int}{i:Nat}:i∈bD fs lim fs.length↔i<fs.length/\countB (bF fs i) lim=true:=by
 unfold bD
 rw[List.mem_filter,List.mem_range]
theorem abP {ps:List Pt}(h1:ps.Pairwise fun p q=>p.1<q.1)(h2:∀p∈ps,1<=p.1/\p.1<=100000/\1<=p.2/\p.2<=100000):pM ps=true:=by
 unfold pM Kq
 rw[List.all_eq_true]
 intro k hk
 rw[List.mem_range] at hk
 have hp:=h2 _ (List.mem_of_getElem? (gV hk))
 unfold PK
 rw[decide_eq_true_eq]
 refine⟨?_,hp.2.1,hp.2.2.1,hp.2.2.2⟩
 unfold KH
 by_cases h0:k=0
 ·rw[if_pos h0];omega
 ·rw[if_neg h0]
  rw[List.pairwise_iff_getElem] at h1
  have:=h1 (k-1) k (by omega) hk (by omega)
  have a:=gV hk
  have b:=gV (ps:=ps) (k:=k-1) (by omega)
  rw[List.getElem?_eq_getElem hk] at a
  rw[List.getElem?_eq_getElem (by omega)] at b
  injection a with a
  injection b with b
  rw[a,b] at this
  exact this
structure uT (fs gs:List FV) (lim:Int) (ps:List Pt):Prop where
 lf:bQ fs=true
 lg:bQ gs=true
 lm:sS lim=true
 ord:pM ps=true
 good:∀p∈ps,∃f∈fs,∃g∈gs,f.id=p.1/\g.id=p.2/\je f g=true
 cov:∀f∈fs,countB f lim=true->∃p∈ps,p.1=f.id
theorem L8 {fs gs:List FV}{lim:Int}(h1:bQ fs=true)(h2:bQ gs=true)(h3:sS lim=true):lH fs gs lim=true:=by
 unfold lH
 rw[h1,h2,h3]
 rfl
theorem Pj {fs gs:List FV}{lim:Int}(hg:bQ gs=true):vI fs gs (bD fs lim fs.length)=[]↔∀f∈fs,countB f lim=true->∃g∈gs,je f g=true:=by
 unfold vI
 rw[List.map_eq_nil_iff,List.filter_eq_nil_iff]
 constructor
 ·intro h f hf hc
  obtain⟨k,hk,rfl⟩:=kT hf
  have:=h k (jQ.2 ⟨hk,hc⟩)
  obtain⟨g,h1,h2,_⟩:=abg (f:=bF fs k) (gs:=gs) (by simpa using this)
  exact⟨g,h1,h2⟩
 ·intro h i hi
  obtain⟨hk,hc⟩:=jQ.1 hi
  obtain⟨g,h1,h2⟩:=h _ (dQ hk) hc
  have:=XD hg h1 h2
  simpa using this
theorem NJ {fs gs:List FV}{lim:Int}(hf:bQ fs=true)(hg:bQ gs=true)(hl:sS lim=true)(h:vI fs gs (bD fs lim fs.length)=[]):uT fs gs lim (oP fs gs (bD fs lim fs.length)):=by
 have hb:∀i,i∈bD fs lim fs.length->∃g,g∈gs/\je (bF fs i) g=true/\g.id=oL (bF fs i) gs:=by
  intro i hi
  obtain⟨hk,hc⟩:=jQ.1 hi
  obtain⟨g,h1,h2⟩:=(Pj hg).1 h _ (dQ hk) hc
  exact abg (XD hg h1 h2)
 refine⟨hf,hg,hl,abP ?_ ?_,?_,?_⟩
 ·unfold oP
  rw[List.pairwise_map]
  refine List.Pairwise.imp_of_mem (R:=fun i j=>i<j) ?_ ?_
  ·intro i j hi hj hij
   exact zn hf i j hij (jQ.1 hj).1
  ·unfold bD
   exact List.pairwise_lt_range.filter _
 ·intro p hp
  unfold oP at hp
  obtain⟨i,hi,rfl⟩:=List.mem_map.1 hp
  obtain⟨g,h1,_,h3⟩:=hb i hi
  have:=KG hf (jQ.1 hi).1
  have:=PZ hg h1
  dsimp only
  omega
 ·intro p hp
  unfold oP at hp
  obtain⟨i,hi,rfl⟩:=List.mem_map.1 hp
  obtain⟨g,h1,h2,h3⟩:=hb i hi
  exact⟨_,dQ (jQ.1 hi).1,g,h1,rfl,h3,h2⟩
 ·intro f hm hc
  obtain⟨k,hk,rfl⟩:=kT hm
  refine⟨((bF fs k).id,oL (bF fs k) gs),List.mem_map.2 ⟨k,jQ.2 ⟨hk,hc⟩,rfl⟩,rfl⟩
end Go.Proofs.YtlkgjmnjhifehaaGreat
namespace Go.Proofs.YtlkgjmnjhifehaaGreat
def e1:FV:={ id:=1,kind:=1,x:=0,y:=0,dC:=5,aA:=none,ac:=0,area:=[],dep:=27,sym:=0,sA:=none,sc:=0,secs:=[] }
def e2:FV:={ id:=2,kind:=1,x:=6,y:=8,dC:=2,aA:=none,ac:=0,area:=[],dep:=31,sym:=0,sA:=none,sc:=0,secs:=[] }
def e3:FV:={ id:=3,kind:=2,x:=0,y:=0,dC:=1,aA:=none,ac:=0,area:=[],dep:=80,sym:=0,sA:=none,sc:=0,secs:=[] }
def Fv:List FV:=[e1,e2,e3]
def PQ:FV:={ e1 with dC:=12,dep:=20 }
def PO:FV:={ e1 with dC:=12 }
theorem YH:rootOf 100=10:=by
 obtain⟨h0,_,h1,h2⟩:=xm 100 (by omega) (by omega)
 generalize rootOf 100=r at *
 have a:r<=10:=by
  refine Int.le_of_lt_add_one (Int.lt_of_not_ge fun h=>?_)
  have:(11:Int)*11<=r*r:=Int.mul_le_mul (by omega) (by omega) (by omega) (by omega)
  omega
 have b:10<=r:=by
  refine Int.le_of_lt_add_one (Int.lt_of_not_ge fun h=>?_)
  have:(r+1)*(r+1)<=10*10:=Int.mul_le_mul (by omega) (by omega) (by omega) (by omega)
  omega
 omega
theorem Qh (a b c:FV)(k n:Int)(d:FV)(h1:[a,b,c].filter (isKind k)=[a,b])(h2:fH k [a,b,c]=[c])(hab:GM a b=true)(hn:a.id≠b.id)(hk:iH n [a,b] 2=[d])(hdc:leI d c=true)(hn2:d.id≠c.id):fO k n [a,b,c]=[d,c]:=by
 unfold fO
 have hd:dM k [a,b,c]=[a,b]:=by
  unfold dM
  rw[h1]
  exact (xg JU qN qO (by simp[hn]) (List.Perm.refl _) (by simp[hab])).symm
 rw[hd,h2]
 show ([c]++iH n [a,b] 2).mergeSort leI=_
 rw[hk]
 exact (xg JR vK vM (by simp;exact fun h=>hn2 h.symm) (List.Perm.swap _ _ _) (by simp[hdc])).symm
theorem aeU (f g:FV)(hf:f.x=6/\f.y=8)(hg:g.x=0/\g.y=0):CP f g=10:=by
 unfold CP wH
 rw[hf.1,hf.2,hg.1,hg.2,show dt (6,8) (0,0) (0,0)=100 from rfl,YH]
 rfl
theorem Zr (f g:FV)(hf:f.x=6/\f.y=8/\f.dC=2)(hg:g.x=0/\g.y=0/\g.dC=5):zo f g=false:=by
 unfold zo
 rw[hf.1,hf.2.1,hf.2.2,hg.1,hg.2.1,hg.2.2]
 decide
theorem Qi (a b:FV)(ha:a.x=0/\a.y=0/\a.dC=5)(hb:b.x=6/\b.y=8/\b.dC=2):iH 10 [a,b] 2=[{ a with dC:=12 }]:=by
 obtain⟨i,k,x,y,r,a1,a2,a3,d,s,b1,b2,b3⟩:=a
 obtain⟨i',k',x',y',r',a1',a2',a3',d',s',b1',b2',b3'⟩:=b
 obtain⟨rfl,rfl,rfl⟩:=ha
 obtain⟨rfl,rfl,rfl⟩:=hb
 rw[jK (by simp),jK (by simp)]
 show thinStep 10 (thinStep 10 [] ⟨i,k,0,0,5,a1,a2,a3,d,s,b1,b2,b3⟩) ⟨i',k',6,8,2,a1',a2',a3',d',s',b1',b2',b3'⟩=_
 rw[show thinStep 10 [] (⟨i,k,0,0,5,a1,a2,a3,d,s,b1,b2,b3⟩:FV)=[⟨i,k,0,0,5,a1,a2,a3,d,s,b1,b2,b3⟩] from rfl]
 rw[step_some (k:=0) (by simp) (by rfl) (by omega)]
 show [jD _ _]=_
 unfold jD
 rw[if_neg (by simp[bF]),if_neg (by rw[Zr _ _ ⟨rfl,rfl,rfl⟩ ⟨rfl,rfl,rfl⟩];simp)]
 unfold GX
 rw[aeU _ _ ⟨rfl,rfl⟩ ⟨rfl,rfl⟩]
 rfl
theorem ap1:bP 2 1 10 Fv=([{ e1 with dep:=20 },{ e2 with dep:=30 },e3],0):=by kernel_rfl
theorem th2:fO 1 10 [{ e1 with dep:=20 },{ e2 with dep:=30 },e3]=[PQ,e3]:=Qh _ _ _ _ _ _ rfl rfl (by rfl) (by decide) (Qi _ _ ⟨rfl,rfl,rfl⟩ ⟨rfl,rfl,rfl⟩) (by rfl) (by decide)
theorem th3:fO 1 10 Fv=[PO,e3]:=Qh _ _ _ _ _ _ rfl rfl (by rfl) (by decide) (Qi _ _ ⟨rfl,rfl,rfl⟩ ⟨rfl,rfl,rfl⟩) (by rfl) (by decide)
theorem ap2:bP 3 1 10 [{ e1 with dep:=20 },{ e2 with dep:=30 },e3]=([PQ,e3],0):=by
 unfold bP jg
 rw[if_pos (by kernel_rfl),if_pos rfl,th2,if_pos (by kernel_rfl)]
 rfl
theorem ap3:bP 1 0 30 Fv=(Fv,0):=by kernel_rfl
theorem ap4:bP 3 1 10 Fv=([PO,e3],0):=by
 unfold bP jg
 rw[if_pos (by kernel_rfl),if_pos rfl,th3,if_pos (by kernel_rfl)]
 rfl
def ruA:List Ru:=[(2,1,10),(3,1,10)]
def ruB:List Ru:=[(1,0,30),(3,1,10)]
theorem rn1:gQ ruA Fv=([PQ,e3],0):=by
 unfold gQ
 rw[if_pos (by kernel_rfl)]
 show fD (fD (Fv,0) (2,1,10)) (3,1,10)=_
 rw[show fD (Fv,0) (2,1,10)=bP 2 1 10 Fv from rfl,ap1]
 exact ap2
theorem rn2:gQ ruB Fv=([PO,e3],0):=by
 unfold gQ
 rw[if_pos (by kernel_rfl)]
 show fD (fD (Fv,0) (1,0,30)) (3,1,10)=_
 rw[show fD (Fv,0) (1,0,30)=bP 1 0 30 Fv from rfl,ap3]
 exact ap4
theorem x1:kE Fv ruA=(([PQ,e3],[(1,1),(2,1),(3,1)]),0):=by
 unfold kE
 rw[rn1]
 kernel_rfl
theorem x2:kE Fv ruB=(([PO],[(1,1)]),0):=by
 unfold kE
 rw[rn2]
 kernel_rfl
theorem x3:Qq Fv Fv 100 [(1,1),(2,2),(3,1)]=(true,0):=by kernel_rfl
theorem x4:Qq Fv Fv 100 [(1,1),(2,2),(3,2)]=(false,0):=by kernel_rfl
theorem x5:DJ Fv [e2] 81=([1,3],0):=by kernel_rfl
theorem x6:DJ Fv [e2] 80=([1],0):=by kernel_rfl
theorem x7:Z9 [(1,1),(2,1),(3,3)] [(1,7)]=([(1,7),(2,7)],0):=by kernel_rfl
theorem x8:kU Fv 30 (0,0)=(27,0):=by kernel_rfl
end Go.Proofs.YtlkgjmnjhifehaaGreat
