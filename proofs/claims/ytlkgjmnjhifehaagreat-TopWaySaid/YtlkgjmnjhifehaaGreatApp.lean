/- Reading and appending slices: words of the guide's page extra-words, laid here to be used. -/
import Derived.Test.YtlkgjmnjhifehaaGreatReg
import Derived.Maps.AppendAt
import Derived.Deep.AppendLies
import Derived.RegionTactic
import Derived.OwnWalk
set_option linter.unusedSimpArgs false
set_option linter.unusedVariables false
namespace Go.Proofs.YtlkgjmnjhifehaaGreat
open Go.RowKit Go.Sort
theorem zV (a:Addr)(n:Nat):(a.add n).block=a.block:=by unfold Addr.add;split<;>rfl
theorem OO (a:Addr)(i j:Nat):(a.add i).add j=a.add (i+j):=by
 unfold Addr.add
 by_cases hi:i=0<;>by_cases hj:j=0<;>simp[hi,hj,Nat.add_assoc]
def Reads (w:World)(B size:Nat)(A:Option Addr)(n:Nat)(xs:List Value):Prop :=
 xs.length=n*size/\(0<n->∃ad,A=some ad/\ad.block<B/\∀j u,xs[j]?=some u->w.cell? (ad.add j)=some u)
section
variable {w w':World} {B B' size n:Nat} {A:Option Addr} {xs:List Value}
theorem Reads.at_ {k:Nat}(h:Reads w B 1 A n xs)(hk:k<n):∃ad u,A=some ad/\ad.block<B/\xs[k]?=some u/\w.cell? (ad.add k)=some u:=by
 obtain⟨ad,e,hb,hc⟩:=h.2 (by omega)
 have hl:k<xs.length:=by have:=h.1;omega
 exact⟨ad,xs[k],e,hb,List.getElem?_eq_getElem hl,hc k _ (List.getElem?_eq_getElem hl)⟩
theorem Reads.keep (h:Reads w B size A n xs)(hk:∀p:Addr,p.block<B->w'.cell? p=w.cell? p):Reads w' B size A n xs :=
 ⟨h.1,fun hn=>by
  obtain⟨ad,e,hb,hc⟩:=h.2 hn
  exact⟨ad,e,hb,fun j u hu=>(hk _ (by rw[zV];exact hb)).trans (hc j u hu)⟩⟩
theorem Reads.below (h:Reads w B size A n xs)(hb:Below B w w'):Reads w' B size A n xs:=h.keep fun _ hp=>hb.cell hp
theorem Reads.drew (h:Reads w B size A n xs):Reads w.drew B size A n xs:=h
theorem Reads.drewN (h:Reads w B size A n xs)(k:Nat):Reads (w.drewN k) B size A n xs:=h
theorem Reads.alloc (h:Reads w B size A n xs)(hB:B<=w.heap.size)(o:Obj):Reads (w.alloc o) B size A n xs:=h.keep fun p hp=>World.cell?_alloc_lt w o p (by omega)
theorem Reads.setCell (h:Reads w B size A n xs){p:Addr}(hB:B<=p.block)(u:Value):Reads (w.setCell p u) B size A n xs :=
 h.keep fun q hq=>World.cell?_setCell_other w p q u (fun e=>by subst e;omega)
theorem Reads.grown (h:Reads w B size A n xs){row:Option Nat}(hg:w.grownBy w' row)(hB:B<=w.heap.size)(hr:∀g,row=some g->B<=g):Reads w' B size A n xs :=
 h.keep fun p hp=>World.cell?_of_block (hg.block p.block (by omega) (fun e=>by have:=hr _ e.symm;omega))
theorem Reads.cut (h:Reads w B size A n xs){k cap:Nat}(hk:k<=n)(hc:n<=cap) :
  Reads w B size (if cap=k then A else A.map (·.add (k*size))) (n-k) (xs.drop (k*size)):=by
 refine⟨by rw[List.length_drop,h.1,Nat.sub_mul],fun hn=>?_⟩
 obtain⟨ad,rfl,hb,hcell⟩:=h.2 (by omega)
 rw[if_neg (by omega)]
 refine⟨ad.add (k*size),rfl,by rw[zV];exact hb,fun j u hu=>?_⟩
 rw[OO]
 exact hcell _ u (by rw[<-hu,List.getElem?_drop])
theorem Reads.iE {base:Nat}{e:TypeId}{c:Nat}(h:w.ownsRow base e size (.slice A n c) n xs):Reads w w.heap.size size A n xs:=by
 refine⟨h.1,fun hn=>?_⟩
 obtain⟨g,cap,hv,_,hlt⟩:=h.form hn
 have hA:A=some ⟨g,0,none⟩:=by injection hv
 subst hA
 exact⟨_,rfl,hlt,h.cells (g:=g) rfl⟩
end
section
variable {P:Program} (w:World)
theorem yP (base:Nat)(t ty e:TypeId)(i:TypeInfo)(size:Nat)(ht:P.underlying t=some (.slice e))(hi:P.info? e=some i)
  (v:Value) (n:Nat) (xs:List Value) (hown:w.ownsRow base e size v n xs) (c:Nat):(Builtin.append_ #[t,t] ty #[v,.slice none 0 c]).run P w=.ok v w:=by
 rcases hown.2 with⟨rfl,rfl⟩|⟨g,cap,cur,rfl,_,_,hnc,_⟩
 ·simp[Builtin.append_,run_underlying ht,sizeOf,typeInfo,hi,Builtin.lenOf,Builtin.firstCells]
 ·simp[Builtin.append_,run_underlying ht,sizeOf,typeInfo,hi,Builtin.lenOf,Builtin.firstCells,hnc,storeCells]
theorem DX (base:Nat)(t ty e:TypeId)(i:TypeInfo)(z:Value)(size bytes:Nat)(ht:P.underlying t=some (.slice e))(hi:P.info? e=some i)(hz:i.zero=some z)
  (hsize:i.size=size) (hby:i.bytes=bytes) (hzs:z.cells.size=size) (hsz:0<size)
  (v:Value) (n:Nat) (xs:List Value) (hown:w.ownsRow base e size v n xs)
  (B:Nat) (A:Option Addr) (m c:Nat) (news:List Value) (hr:Reads w B size A m news) (h1:∀u∈news,u.oneCell'=true)
  (h63:n+m<=maxLen) (hbytes:(n+m)*bytes<=140737488355328) (hbase:base<=w.heap.size) :
  ∃v' w',(Builtin.append_ #[t,t] ty #[v,.slice A m c]).run P w=.ok v' w'/\w'.ownsRow base e size v' (n+m) (xs++news)/\w.grownBy w' v.ownBlock /\
   (v'.ownBlock=v.ownBlock\/v'.ownBlock=some w.heap.size):=by
 rcases A with _|ad
 ·have hm:m=0:=by
   rcases Nat.eq_zero_or_pos m with h0|h0
   ·exact h0
   ·obtain⟨ad,h,_⟩:=hr.2 h0
    cases h
  subst hm
  have hn:news=[]:=List.eq_nil_of_length_eq_zero (by simpa using hr.1)
  subst hn
  exact⟨v,w,yP w base t ty e i size ht hi v n xs hown c,by simpa using hown,World.grownBy.refl w _,.inl rfl⟩
 ·have hcells:∀j u,news[j]?=some u->w.cell? (ad.add j)=some u:=by
   intro j u hu
   rcases Nat.eq_zero_or_pos m with h0|h0
   ·subst h0
    have hn:news=[]:=List.eq_nil_of_length_eq_zero (by simpa using hr.1)
    subst hn
    simp at hu
   ·obtain⟨ad',h,_,hc⟩:=hr.2 h0
    injection h with h
    subst h
    exact hc j u hu
  obtain⟨v',w',hrun,h2,h3,_,h5⟩:=run_append_own_at (P:=P) w base t ty e i z size bytes ht hi hz hsize hby hzs hsz v n xs hown ad m c news hr.1 hcells h1 h63 hbytes hbase
  exact⟨v',w',hrun,h2,h3,h5⟩
theorem FB {o:Oper}{a:Act}{K:Act->World->Prop}{Q:Exit->Act->World->Prop}(s x:Operand)(t:TypeId)
  (ho:o.op=.call { callee:=.builtin .append,args:=#[s,x],argTypes:=#[t,t] })
  (base:Nat) (e:TypeId) (i:TypeInfo) (z:Value) (size bytes:Nat) (ht:P.underlying t=some (.slice e)) (hi:P.info? e=some i) (hz:i.zero=some z)
  (hsize:i.size=size) (hby:i.bytes=bytes) (hzs:z.cells.size=size) (hsz:0<size)
  (v:Value) (n:Nat) (xs:List Value) (hs:a.eval s=v) (hown:w.ownsRow base e size v n xs)
  (B:Nat) (A:Option Addr) (m c:Nat) (news:List Value) (hx:a.eval x=.slice A m c) (hr:Reads w B size A m news) (h1:∀u∈news,u.oneCell'=true)
  (h63:n+m<=maxLen) (hbytes:(n+m)*bytes<=140737488355328) (hbase:base<=w.heap.size)
  (h:∀v' w',w'.ownsRow base e size v' (n+m) (xs++news)->w.grownBy w' v.ownBlock->(v'.ownBlock=v.ownBlock\/v'.ownBlock=some w.heap.size)->K (a.put o.dst v') w'):o.wp P a w K Q:=by
 obtain⟨v',w',hrun,h2,h3,h4⟩:=DX (P:=P) w base t o.type e i z size bytes ht hi hz hsize hby hzs hsz v n xs hown B A m c news hr h1 h63 hbytes hbase
 unfold Oper.wp execOp
 simp only[ho,resolve,invoke,builtin,Sem.run_bind,Sem.run_pure,Result.andThen_ok,List.map_toArray,List.map_cons,List.map_nil,hs,hx,hrun]
 exact h v' w' h2 h3 h4
theorem iw {ops:Array Oper}{rest:List Oper}{o:Oper}{a:Act}{Q:Exit->Act->World->Prop}(hgd:o.guard=none)(s x:Operand)(t:TypeId)
  (ho:o.op=.call { callee:=.builtin .append,args:=#[s,x],argTypes:=#[t,t] })
  (base:Nat) (e:TypeId) (i:TypeInfo) (z:Value) (size bytes:Nat) (ht:P.underlying t=some (.slice e)) (hi:P.info? e=some i) (hz:i.zero=some z)
  (hsize:i.size=size) (hby:i.bytes=bytes) (hzs:z.cells.size=size) (hsz:0<size)
  (v:Value) (n:Nat) (xs:List Value) (hs:a.eval s=v) (hown:w.ownsRow base e size v n xs)
  (B:Nat) (A:Option Addr) (m c:Nat) (news:List Value) (hx:a.eval x=.slice A m c) (hr:Reads w B size A m news) (h1:∀u∈news,u.oneCell'=true)
  (h63:n+m<=maxLen) (hbytes:(n+m)*bytes<=140737488355328) (hbase:base<=w.heap.size)
  (h:∀v' w',w'.ownsRow base e size v' (n+m) (xs++news)->w.grownBy w' v.ownBlock->(v'.ownBlock=v.ownBlock\/v'.ownBlock=some w.heap.size)->wpList P ops Q rest (a.put o.dst v') w'):wpList P ops Q (o::rest) a w :=
 wpList_plain hgd fun _ hK=>FB w s x t ho base e i z size bytes ht hi hz hsize hby hzs hsz v n xs hs hown B A m c news hx hr h1 h63 hbytes hbase fun v' w' h2 h3 h4=>hK _ _ (h v' w' h2 h3 h4)
end
theorem ig {α:Type}(f:α->List Value)(m:Nat)(hf:∀a,(f a).length=m):∀ (l:List α) (k j:Nat) (v:Value),j<m->((l.flatMap f)[k*m+j]?=some v↔∃a,l[k]?=some a/\(f a)[j]?=some v)
 | [],k,j,v,_=>by simp
 | a::l,0,j,v,hj=>by
  rw[List.flatMap_cons,Nat.zero_mul,Nat.zero_add,List.getElem?_append_left (by rw[hf];exact hj)]
  simp
 | a::l,k+1,j,v,hj=>by
  rw[List.flatMap_cons,List.getElem?_append_right (by rw[hf,Nat.succ_mul];omega),hf,show (k+1)*m+j-m=k*m+j from by rw[Nat.succ_mul];omega]
  simpa using ig f m hf l k j v hj
theorem Rd.reads {α:Type}{w:World}{B m:Nat}{A:Option Addr}{xs:List α}{f:α->List Value}(hf:∀a,(f a).length=m)(hm:0<m)(h:Rd w B m A (xs.map f)):Reads w B m A xs.length (xs.flatMap f):=by
 have hlen:(xs.flatMap f).length=xs.length*m:=by
  rw[List.length_flatMap]
  have:∀l:List α,(l.map fun a=>(f a).length).sum=l.length*m:=by
   intro l
   induction l with
   | nil=>simp
   | cons a l ih=>rw[List.map_cons,List.sum_cons,ih,hf,List.length_cons,Nat.succ_mul];omega
  exact this xs
 refine⟨hlen,fun hn=>?_⟩
 rcases h with h|⟨b,off,hA,hb,hc⟩
 ·simp at h
  subst h
  simp at hn
 ·refine⟨⟨b,off,none⟩,hA,hb,fun j u hu=>?_⟩
  rw[rV]
  have hj:j=(j / m)*m+j%m:=by rw[Nat.mul_comm];exact (Nat.div_add_mod j m).symm
  rw[hj] at hu
  obtain⟨a,ha,hv⟩:=(ig f m hf xs _ _ u (Nat.mod_lt _ hm)).1 hu
  have:=hc (j / m) (f a) (by simp[ha]) (j%m) u hv
  rw[hj,<-Nat.add_assoc]
  exact this
theorem Rd.iE {α:Type}{w:World}{base e m n:Nat}{v:Value}{xs:List α}{f:α->List Value}(hf:∀a,(f a).length=m)(h:w.ownsRow base e m v n (xs.flatMap f))(hn:n=xs.length) :
  ∃A c,v=.slice A n c/\n<=c/\Rd w w.heap.size m A (xs.map f):=by
 rcases h.2 with⟨rfl,h0⟩|⟨g,cap,cur,rfl,hb,hg,hnc,hm,hcs,ht⟩
 ·subst h0
  have:xs=[]:=List.length_eq_zero_iff.1 hn.symm
  subst this
  exact⟨none,0,rfl,Nat.le_refl _,.inl rfl⟩
 ·refine⟨some ⟨g,0,none⟩,cap,rfl,hnc,.inr ⟨g,0,rfl,(Array.getElem?_eq_some_iff.1 hg).1,fun k x hx j u hu=>?_⟩⟩
  rw[cell_of_row w g _ cur e (0,0) hg]
  rw[List.getElem?_map] at hx
  obtain⟨a,ha,rfl⟩:=Option.map_eq_some_iff.1 hx
  have hj:j<m:=by rw[<-hf a];exact (List.getElem?_eq_some_iff.1 hu).1
  have h1:=(ig f m hf xs k j u hj).2 ⟨a,ha,hu⟩
  rw[<-ht,List.getElem?_take] at h1
  split at h1
  ·rw[Nat.zero_add]
   simpa using h1
  ·cases h1
end Go.Proofs.YtlkgjmnjhifehaaGreat
