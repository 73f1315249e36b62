/- What proofs prove, in plain words. What rules make of a list, and what Make makes, in plain words. The chapter's examples, by computing. -/
import Derived.Test.YtblgdlnmabkpoaaGreatDeG
set_option linter.unusedSimpArgs false
set_option linter.unusedVariables false
namespace Go.Proofs.YtblgdlnmabkpoaaGreat
open Go.RowKit Go.Sort
end Go.Proofs.YtblgdlnmabkpoaaGreat
namespace Go.Proofs.YtblgdlnmabkpoaaGreat
def e1:FV:={ id:=1,kind:=1,x:=0,y:=0,rad:=5,aA:=none,ac:=0,area:=[],dep:=27,sym:=0,sA:=none,sc:=0,secs:=[] }
def e2:FV:={ id:=2,kind:=1,x:=6,y:=8,rad:=2,aA:=none,ac:=0,area:=[],dep:=31,sym:=0,sA:=none,sc:=0,secs:=[] }
def e3:FV:={ id:=3,kind:=2,x:=0,y:=0,rad:=1,aA:=none,ac:=0,area:=[],dep:=80,sym:=0,sA:=none,sc:=0,secs:=[] }
def exL:List FV:=[e1,e2,e3]
def one20:FV:={ e1 with rad:=12,dep:=20 }
def one27:FV:={ e1 with rad:=12 }
theorem root100:rootOf 100=10:=by
 obtain⟨h0,_,h1,h2⟩:=root_spec 100 (by omega) (by omega)
 generalize rootOf 100=r at *
 have a:r≤10:=by
  refine Int.le_of_lt_add_one (Int.lt_of_not_ge fun h=>?_)
  have:(11:Int)*11≤r*r:=Int.mul_le_mul (by omega) (by omega) (by omega) (by omega)
  omega
 have b:10≤r:=by
  refine Int.le_of_lt_add_one (Int.lt_of_not_ge fun h=>?_)
  have:(r+1)*(r+1)≤10*10:=Int.mul_le_mul (by omega) (by omega) (by omega) (by omega)
  omega
 omega
theorem ex_thin (a b c:FV)(k n:Int)(d:FV)(h1:[a,b,c].filter (isKind k)=[a,b])(h2:othersOf k [a,b,c]=[c])(hab:leD a b=true)(hn:a.id≠b.id)(hk:keptTo n [a,b] 2=[d])(hdc:leI d c=true)(hn2:d.id≠c.id):thinOf k n [a,b,c]=[d,c]:=by
 unfold thinOf
 have hd:discsOf k [a,b,c]=[a,b]:=by
  unfold discsOf
  rw[h1]
  exact (sort_uniq sortD_id sortD_trans sortD_total (by simp[hn]) (List.Perm.refl _) (by simp[hab])).symm
 rw[hd,h2]
 show ([c]++keptTo n [a,b] 2).mergeSort leI=_
 rw[hk]
 exact (sort_uniq sortI_id sortI_trans sortI_total (by simp;exact fun h=>hn2 h.symm) (List.Perm.swap _ _ _) (by simp[hdc])).symm
theorem ex_hi (f g:FV)(hf:f.x=6∧f.y=8)(hg:g.x=0∧g.y=0):hiF f g=10:=by
 unfold hiF distOf
 rw[hf.1,hf.2,hg.1,hg.2,show dt (6,8) (0,0) (0,0)=100 from rfl,root100]
 rfl
theorem ex_lies (f g:FV)(hf:f.x=6∧f.y=8∧f.rad=2)(hg:g.x=0∧g.y=0∧g.rad=5):liesF f g=false:=by
 unfold liesF
 rw[hf.1,hf.2.1,hf.2.2,hg.1,hg.2.1,hg.2.2]
 decide
theorem ex_kept (a b:FV)(ha:a.x=0∧a.y=0∧a.rad=5)(hb:b.x=6∧b.y=8∧b.rad=2):keptTo 10 [a,b] 2=[{ a with rad:=12 }]:=by
 obtain⟨i,k,x,y,r,a1,a2,a3,d,s,b1,b2,b3⟩:=a
 obtain⟨i',k',x',y',r',a1',a2',a3',d',s',b1',b2',b3'⟩:=b
 obtain⟨rfl,rfl,rfl⟩:=ha
 obtain⟨rfl,rfl,rfl⟩:=hb
 rw[keptTo_succ (by simp),keptTo_succ (by simp)]
 show thinStep 10 (thinStep 10 [] ⟨i,k,0,0,5,a1,a2,a3,d,s,b1,b2,b3⟩) ⟨i',k',6,8,2,a1',a2',a3',d',s',b1',b2',b3'⟩=_
 rw[show thinStep 10 [] (⟨i,k,0,0,5,a1,a2,a3,d,s,b1,b2,b3⟩:FV)=[⟨i,k,0,0,5,a1,a2,a3,d,s,b1,b2,b3⟩] from rfl]
 rw[step_some (k:=0) (by simp) (by rfl) (by omega)]
 show [joinF _ _]=_
 unfold joinF
 rw[if_neg (by simp[fAt]),if_neg (by rw[ex_lies _ _ ⟨rfl,rfl,rfl⟩ ⟨rfl,rfl,rfl⟩];simp)]
 unfold growF
 rw[ex_hi _ _ ⟨rfl,rfl⟩ ⟨rfl,rfl⟩]
 rfl
theorem ap1:applyOf 2 1 10 exL=([{ e1 with dep:=20 },{ e2 with dep:=30 },e3],0):=by kernel_rfl
theorem th2:thinOf 1 10 [{ e1 with dep:=20 },{ e2 with dep:=30 },e3]=[one20,e3]:=ex_thin _ _ _ _ _ _ rfl rfl (by rfl) (by decide) (ex_kept _ _ ⟨rfl,rfl,rfl⟩ ⟨rfl,rfl,rfl⟩) (by rfl) (by decide)
theorem th3:thinOf 1 10 exL=[one27,e3]:=ex_thin _ _ _ _ _ _ rfl rfl (by rfl) (by decide) (ex_kept _ _ ⟨rfl,rfl,rfl⟩ ⟨rfl,rfl,rfl⟩) (by rfl) (by decide)
theorem ap2:applyOf 3 1 10 [{ e1 with dep:=20 },{ e2 with dep:=30 },e3]=([one20,e3],0):=by
 unfold applyOf applyL
 rw[if_pos (by kernel_rfl),if_pos rfl,th2,if_pos (by kernel_rfl)]
 rfl
theorem ap3:applyOf 1 0 30 exL=(exL,0):=by kernel_rfl
theorem ap4:applyOf 3 1 10 exL=([one27,e3],0):=by
 unfold applyOf applyL
 rw[if_pos (by kernel_rfl),if_pos rfl,th3,if_pos (by kernel_rfl)]
 rfl
def ruA:List Ru:=[(2,1,10),(3,1,10)]
def ruB:List Ru:=[(1,0,30),(3,1,10)]
theorem rn1:runOf ruA exL=([one20,e3],0):=by
 unfold runOf
 rw[if_pos (by kernel_rfl)]
 show runStep (runStep (exL,0) (2,1,10)) (3,1,10)=_
 rw[show runStep (exL,0) (2,1,10)=applyOf 2 1 10 exL from rfl,ap1]
 exact ap2
theorem rn2:runOf ruB exL=([one27,e3],0):=by
 unfold runOf
 rw[if_pos (by kernel_rfl)]
 show runStep (runStep (exL,0) (1,0,30)) (3,1,10)=_
 rw[show runStep (exL,0) (1,0,30)=applyOf 1 0 30 exL from rfl,ap3]
 exact ap4
theorem x1:makeOf exL ruA=(([one20,e3],[(1,1),(2,1),(3,1)]),0):=by
 unfold makeOf
 rw[rn1]
 kernel_rfl
theorem x2:makeOf exL ruB=(([one27],[(1,1)]),0):=by
 unfold makeOf
 rw[rn2]
 kernel_rfl
theorem x3:checkOf exL exL 100 [(1,1),(2,2),(3,1)]=(true,0):=by kernel_rfl
theorem x4:checkOf exL exL 100 [(1,1),(2,2),(3,2)]=(false,0):=by kernel_rfl
theorem x5:unprovedOf exL [e2] 81=([1,3],0):=by kernel_rfl
theorem x6:unprovedOf exL [e2] 80=([1],0):=by kernel_rfl
theorem x7:againOf [(1,1),(2,1),(3,3)] [(1,7)]=([(1,7),(2,7)],0):=by kernel_rfl
theorem x8:dshownOf exL 30 (0,0)=(27,0):=by kernel_rfl
theorem x9:dshownOf exL 30 (6,8)=(30,0):=by kernel_rfl
theorem x10:proveOf exL [e2] 80=([],19):=by kernel_rfl
end Go.Proofs.YtblgdlnmabkpoaaGreat
