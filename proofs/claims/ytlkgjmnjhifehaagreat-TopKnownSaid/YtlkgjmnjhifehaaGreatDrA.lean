/- What proofs prove, in plain words. What rules make of a list, and what Make makes, in plain words. The chapter's examples, by computing. -/
import Derived.Test.YtlkgjmnjhifehaaGreatDeG
set_option linter.unusedSimpArgs false
set_option linter.unusedVariables false
namespace Go.Proofs.YtlkgjmnjhifehaaGreat
open Go.RowKit Go.Sort
theorem xZ {fs:List FV}{x:Int}{f:FV}(h:findF fs x=some f):f∈fs/\f.id=x:=by
 refine⟨AV h,?_⟩
 have:=List.find?_some h
 simpa using this
theorem P7 {fs:List FV}(h:bG fs=true){f:FV}(hf:f∈fs):findF fs f.id=some f:=by
 cases hc:findF fs f.id with
 | none =>
  unfold findF at hc
  rw[List.find?_eq_none] at hc
  have:=hc f hf
  simp at this
 | some g =>
  obtain⟨h1,h2⟩:=xZ hc
  rw[Ro h h1 hf h2]
theorem aa0 {f:FV}{gs:List FV}(h:oJ f gs≠0):∃g,g∈gs/\iT f g=true/\g.id=oJ f gs:=by
 unfold oJ at *
 cases hc:gs.find? (iT f) with
 | none=>rw[hc] at h;exact absurd rfl h
 | some g=>exact⟨g,List.mem_of_find?_eq_some hc,List.find?_some hc,rfl⟩
theorem Xi {f:FV}{gs:List FV}(hv:bG gs=true){g:FV}(hg:g∈gs)(hm:iT f g=true):oJ f gs≠0:=by
 unfold oJ
 cases hc:gs.find? (iT f) with
 | none =>
  rw[List.find?_eq_none] at hc
  exact absurd hm (hc g hg)
 | some g' =>
  have:=PO hv (List.mem_of_find?_eq_some hc)
  show g'.id≠0
  omega
theorem iW {fs:List FV}{lim:Int}{i:Nat}:i∈aS fs lim fs.length↔i<fs.length/\countB (aP fs i) lim=true:=by
 unfold aS
 rw[List.mem_filter,List.mem_range]
theorem abw {ps:List Pt}(h1:ps.Pairwise fun p q=>p.1<q.1)(h2:∀p∈ps,1<=p.1/\p.1<=100000/\1<=p.2/\p.2<=100000):iO ps=true:=by
 unfold iO lI
 rw[List.all_eq_true]
 intro k hk
 rw[List.mem_range] at hk
 have hp:=h2 _ (List.mem_of_getElem? (fB hk))
 unfold tK
 rw[decide_eq_true_eq]
 refine⟨?_,hp.2.1,hp.2.2.1,hp.2.2.2⟩
 unfold lJ
 by_cases h0:k=0
 ·rw[if_pos h0];omega
 ·rw[if_neg h0]
  rw[List.pairwise_iff_getElem] at h1
  have:=h1 (k-1) k (by omega) hk (by omega)
  have a:=fB hk
  have b:=fB (ps:=ps) (k:=k-1) (by omega)
  rw[List.getElem?_eq_getElem hk] at a
  rw[List.getElem?_eq_getElem (by omega)] at b
  injection a with a
  injection b with b
  rw[a,b] at this
  exact this
structure rQ (fs gs:List FV) (lim:Int) (ps:List Pt):Prop where
 lf:bG fs=true
 lg:bG gs=true
 lm:qR lim=true
 ord:iO ps=true
 good:∀p∈ps,∃f∈fs,∃g∈gs,f.id=p.1/\g.id=p.2/\iT f g=true
 cov:∀f∈fs,countB f lim=true->∃p∈ps,p.1=f.id
theorem Ld {fs gs:List FV}(hf:bG fs=true)(hg:bG gs=true){p:Pt}:qY fs gs p=true↔∃f∈fs,∃g∈gs,f.id=p.1/\g.id=p.2/\iT f g=true:=by
 constructor
 ·intro h
  unfold qY at h
  cases h1:findF fs p.1 with
  | none=>rw[h1] at h;cases h
  | some f =>
   cases h2:findF gs p.2 with
   | none=>rw[h1,h2] at h;cases h
   | some g =>
    rw[h1,h2] at h
    obtain⟨a,b⟩:=xZ h1
    obtain⟨c,d⟩:=xZ h2
    exact⟨f,a,g,c,b,d,h⟩
 ·rintro⟨f,a,g,c,b,d,h⟩
  unfold qY
  rw[<-b,<-d,P7 hf a,P7 hg c]
  exact h
theorem GR {fs:List FV}{ps:List Pt}{lim:Int}:uC fs ps (aS fs lim fs.length)=true↔∀f∈fs,countB f lim=true->∃p∈ps,p.1=f.id:=by
 unfold uC tJ
 rw[List.all_eq_true]
 constructor
 ·intro h f hf hc
  obtain⟨k,hk,rfl⟩:=iZ hf
  have:=h k (iW.2 ⟨hk,hc⟩)
  rw[List.any_eq_true] at this
  obtain⟨p,hp,e⟩:=this
  exact⟨p,hp,by simpa using e⟩
 ·intro h i hi
  obtain⟨hk,hc⟩:=iW.1 hi
  obtain⟨p,hp,e⟩:=h _ (dL hk) hc
  rw[List.any_eq_true]
  exact⟨p,hp,by simpa using e⟩
theorem ET {fs gs:List FV}{lim:Int}(h1:bG fs=true)(h2:bG gs=true)(h3:qR lim=true):jc fs gs lim=true:=by
 unfold jc
 rw[h1,h2,h3]
 rfl
theorem Tf {fs gs:List FV}{lim:Int}{ps:List Pt}:(lW fs gs lim ps).1=true↔rQ fs gs lim ps:=by
 unfold lW
 constructor
 ·intro h
  by_cases ha:jc fs gs lim=true
  ·rw[if_pos ha] at h
   obtain⟨h1,h2,h3⟩:=wE ha
   simp only[Bool.and_eq_true] at h
   obtain⟨ho,hg,hc⟩:=h
   rw[List.all_eq_true] at hg
   exact⟨h1,h2,h3,ho,fun p hp=>(Ld h1 h2).1 (hg p hp),GR.1 hc⟩
  ·rw[if_neg ha] at h
   cases h
 ·rintro⟨h1,h2,h3,ho,hg,hc⟩
  rw[if_pos (ET h1 h2 h3)]
  simp only[Bool.and_eq_true]
  exact⟨ho,List.all_eq_true.2 fun p hp=>(Ld h1 h2).2 (hg p hp),GR.2 hc⟩
theorem Ov {fs gs:List FV}{lim:Int}{ps:List Pt}:((lW fs gs lim ps).2=0/\jc fs gs lim=true)\/(lW fs gs lim ps=(false,1)/\jc fs gs lim=false):=by
 unfold lW
 by_cases ha:jc fs gs lim=true
 ·rw[if_pos ha]
  exact .inl ⟨rfl,ha⟩
 ·rw[if_neg ha]
  exact .inr ⟨rfl,by simpa using ha⟩
theorem O1 {fs gs:List FV}{lim:Int}(hg:bG gs=true):uZ fs gs (aS fs lim fs.length)=[]↔∀f∈fs,countB f lim=true->∃g∈gs,iT f g=true:=by
 unfold uZ
 rw[List.map_eq_nil_iff,List.filter_eq_nil_iff]
 constructor
 ·intro h f hf hc
  obtain⟨k,hk,rfl⟩:=iZ hf
  have:=h k (iW.2 ⟨hk,hc⟩)
  obtain⟨g,h1,h2,_⟩:=aa0 (f:=aP fs k) (gs:=gs) (by simpa using this)
  exact⟨g,h1,h2⟩
 ·intro h i hi
  obtain⟨hk,hc⟩:=iW.1 hi
  obtain⟨g,h1,h2⟩:=h _ (dL hk) hc
  have:=Xi hg h1 h2
  simpa using this
theorem Nu {fs gs:List FV}{lim:Int}(hf:bG fs=true)(hg:bG gs=true)(hl:qR lim=true)(h:uZ fs gs (aS fs lim fs.length)=[]):rQ fs gs lim (nK fs gs (aS fs lim fs.length)):=by
 have hb:∀i,i∈aS fs lim fs.length->∃g,g∈gs/\iT (aP fs i) g=true/\g.id=oJ (aP fs i) gs:=by
  intro i hi
  obtain⟨hk,hc⟩:=iW.1 hi
  obtain⟨g,h1,h2⟩:=(O1 hg).1 h _ (dL hk) hc
  exact aa0 (Xi hg h1 h2)
 refine⟨hf,hg,hl,abw ?_ ?_,?_,?_⟩
 ·unfold nK
  rw[List.pairwise_map]
  refine List.Pairwise.imp_of_mem (R:=fun i j=>i<j) ?_ ?_
  ·intro i j hi hj hij
   exact ql hf i j hij (iW.1 hj).1
  ·unfold aS
   exact List.pairwise_lt_range.filter _
 ·intro p hp
  unfold nK at hp
  obtain⟨i,hi,rfl⟩:=List.mem_map.1 hp
  obtain⟨g,h1,_,h3⟩:=hb i hi
  have:=yV hf (iW.1 hi).1
  have:=PO hg h1
  dsimp only
  omega
 ·intro p hp
  unfold nK at hp
  obtain⟨i,hi,rfl⟩:=List.mem_map.1 hp
  obtain⟨g,h1,h2,h3⟩:=hb i hi
  exact⟨_,dL (iW.1 hi).1,g,h1,rfl,h3,h2⟩
 ·intro f hm hc
  obtain⟨k,hk,rfl⟩:=iZ hm
  refine⟨((aP fs k).id,oJ (aP fs k) gs),List.mem_map.2 ⟨k,iW.2 ⟨hk,hc⟩,rfl⟩,rfl⟩
end Go.Proofs.YtlkgjmnjhifehaaGreat
namespace Go.Proofs.YtlkgjmnjhifehaaGreat
def e1:FV:={ id:=1,kind:=1,x:=0,y:=0,dn:=5,aA:=none,ac:=0,area:=[],dep:=27,sym:=0,sA:=none,sc:=0,secs:=[] }
def e2:FV:={ id:=2,kind:=1,x:=6,y:=8,dn:=2,aA:=none,ac:=0,area:=[],dep:=31,sym:=0,sA:=none,sc:=0,secs:=[] }
def e3:FV:={ id:=3,kind:=2,x:=0,y:=0,dn:=1,aA:=none,ac:=0,area:=[],dep:=80,sym:=0,sA:=none,sc:=0,secs:=[] }
def Fj:List FV:=[e1,e2,e3]
def PE:FV:={ e1 with dn:=12,dep:=20 }
def PD:FV:={ e1 with dn:=12 }
theorem Ym:rootOf 100=10:=by
 obtain⟨h0,_,h1,h2⟩:=wR 100 (by omega) (by omega)
 generalize rootOf 100=r at *
 have a:r<=10:=by
  refine Int.le_of_lt_add_one (Int.lt_of_not_ge fun h=>?_)
  have:(11:Int)*11<=r*r:=Int.mul_le_mul (by omega) (by omega) (by omega) (by omega)
  omega
 have b:10<=r:=by
  refine Int.le_of_lt_add_one (Int.lt_of_not_ge fun h=>?_)
  have:(r+1)*(r+1)<=10*10:=Int.mul_le_mul (by omega) (by omega) (by omega) (by omega)
  omega
 omega
theorem Qa (a b c:FV)(k n:Int)(d:FV)(h1:[a,b,c].filter (isKind k)=[a,b])(h2:fF k [a,b,c]=[c])(hab:Gw a b=true)(hn:a.id≠b.id)(hk:iw n [a,b] 2=[d])(hdc:leI d c=true)(hn2:d.id≠c.id):fM k n [a,b,c]=[d,c]:=by
 unfold fM
 have hd:dK k [a,b,c]=[a,b]:=by
  unfold dK
  rw[h1]
  exact (wP JU qG qH (by simp[hn]) (List.Perm.refl _) (by simp[hab])).symm
 rw[hd,h2]
 show ([c]++iw n [a,b] 2).mergeSort leI=_
 rw[hk]
 exact (wP JR vw vz (by simp;exact fun h=>hn2 h.symm) (List.Perm.swap _ _ _) (by simp[hdc])).symm
theorem aet (f g:FV)(hf:f.x=6/\f.y=8)(hg:g.x=0/\g.y=0):CG f g=10:=by
 unfold CG vY
 rw[hf.1,hf.2,hg.1,hg.2,show dt (6,8) (0,0) (0,0)=100 from rfl,Ym]
 rfl
theorem Zf (f g:FV)(hf:f.x=6/\f.y=8/\f.dn=2)(hg:g.x=0/\g.y=0/\g.dn=5):yX f g=false:=by
 unfold yX
 rw[hf.1,hf.2.1,hf.2.2,hg.1,hg.2.1,hg.2.2]
 decide
theorem Qb (a b:FV)(ha:a.x=0/\a.y=0/\a.dn=5)(hb:b.x=6/\b.y=8/\b.dn=2):iw 10 [a,b] 2=[{ a with dn:=12 }]:=by
 obtain⟨i,k,x,y,r,a1,a2,a3,d,s,b1,b2,b3⟩:=a
 obtain⟨i',k',x',y',r',a1',a2',a3',d',s',b1',b2',b3'⟩:=b
 obtain⟨rfl,rfl,rfl⟩:=ha
 obtain⟨rfl,rfl,rfl⟩:=hb
 rw[jK (by simp),jK (by simp)]
 show thinStep 10 (thinStep 10 [] ⟨i,k,0,0,5,a1,a2,a3,d,s,b1,b2,b3⟩) ⟨i',k',6,8,2,a1',a2',a3',d',s',b1',b2',b3'⟩=_
 rw[show thinStep 10 [] (⟨i,k,0,0,5,a1,a2,a3,d,s,b1,b2,b3⟩:FV)=[⟨i,k,0,0,5,a1,a2,a3,d,s,b1,b2,b3⟩] from rfl]
 rw[step_some (k:=0) (by simp) (by rfl) (by omega)]
 show [jC _ _]=_
 unfold jC
 rw[if_neg (by simp[aP]),if_neg (by rw[Zf _ _ ⟨rfl,rfl,rfl⟩ ⟨rfl,rfl,rfl⟩];simp)]
 unfold GH
 rw[aet _ _ ⟨rfl,rfl⟩ ⟨rfl,rfl⟩]
 rfl
theorem ap1:bF 2 1 10 Fj=([{ e1 with dep:=20 },{ e2 with dep:=30 },e3],0):=by kernel_rfl
theorem th2:fM 1 10 [{ e1 with dep:=20 },{ e2 with dep:=30 },e3]=[PE,e3]:=Qa _ _ _ _ _ _ rfl rfl (by rfl) (by decide) (Qb _ _ ⟨rfl,rfl,rfl⟩ ⟨rfl,rfl,rfl⟩) (by rfl) (by decide)
theorem th3:fM 1 10 Fj=[PD,e3]:=Qa _ _ _ _ _ _ rfl rfl (by rfl) (by decide) (Qb _ _ ⟨rfl,rfl,rfl⟩ ⟨rfl,rfl,rfl⟩) (by rfl) (by decide)
theorem ap2:bF 3 1 10 [{ e1 with dep:=20 },{ e2 with dep:=30 },e3]=([PE,e3],0):=by
 unfold bF jh
 rw[if_pos (by kernel_rfl),if_pos rfl,th2,if_pos (by kernel_rfl)]
 rfl
theorem ap3:bF 1 0 30 Fj=(Fj,0):=by kernel_rfl
theorem ap4:bF 3 1 10 Fj=([PD,e3],0):=by
 unfold bF jh
 rw[if_pos (by kernel_rfl),if_pos rfl,th3,if_pos (by kernel_rfl)]
 rfl
def ruA:List Ru:=[(2,1,10),(3,1,10)]
def ruB:List Ru:=[(1,0,30),(3,1,10)]
theorem rn1:gB ruA Fj=([PE,e3],0):=by
 unfold gB
 rw[if_pos (by kernel_rfl)]
 show fA (fA (Fj,0) (2,1,10)) (3,1,10)=_
 rw[show fA (Fj,0) (2,1,10)=bF 2 1 10 Fj from rfl,ap1]
 exact ap2
theorem rn2:gB ruB Fj=([PD,e3],0):=by
 unfold gB
 rw[if_pos (by kernel_rfl)]
 show fA (fA (Fj,0) (1,0,30)) (3,1,10)=_
 rw[show fA (Fj,0) (1,0,30)=bF 1 0 30 Fj from rfl,ap3]
 exact ap4
theorem x1:jH Fj ruA=(([PE,e3],[(1,1),(2,1),(3,1)]),0):=by
 unfold jH
 rw[rn1]
 kernel_rfl
theorem x2:jH Fj ruB=(([PD],[(1,1)]),0):=by
 unfold jH
 rw[rn2]
 kernel_rfl
theorem x3:lW Fj Fj 100 [(1,1),(2,2),(3,1)]=(true,0):=by kernel_rfl
theorem x4:lW Fj Fj 100 [(1,1),(2,2),(3,2)]=(false,0):=by kernel_rfl
theorem x5:DC Fj [e2] 81=([1,3],0):=by kernel_rfl
theorem x6:DC Fj [e2] 80=([1],0):=by kernel_rfl
theorem x7:ZO [(1,1),(2,1),(3,3)] [(1,7)]=([(1,7),(2,7)],0):=by kernel_rfl
theorem x8:jI Fj 30 (0,0)=(27,0):=by kernel_rfl
end Go.Proofs.YtlkgjmnjhifehaaGreat
