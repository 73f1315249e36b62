/- Package slices at features: Clone, DeleteFunc, IndexFunc; what a delete leaves. -/
import Derived.Test.YtlkgjmnjhifehaaGreatPgX
import Derived.Lib.SliceRun
import Derived.Laws.IdiomCopy
set_option linter.unusedSimpArgs false
set_option linter.unusedVariables false
set_option maxHeartbeats 1600000
set_option maxRecDepth 100000
namespace Go.Proofs.YtlkgjmnjhifehaaGreat
open Go.RowKit Go.Sort Go.Lib
attribute [local go_sem] dA steadyUpon
attribute [local go_sem ↓] bU bI aX aW aV aU aT
attribute [local go_sem] bH aK aJ size_grow tape_grow cell?_grow' aF aB grow_grow bW aY dR cO bY bK aN cZ aZ bZ bJ
attribute [local irreducible] wpSteady
theorem Le:(Tryz.prog.info? 65).map (fun i=>(i.zero,i.size,i.bytes))=some (some (.agg #[.int .i64 0,.int .i64 0,.int .i64 0,.int .i64 0,.int .i64 0,.slice none 0 0,.int .i64 0,.int .i64 0,.slice none 0 0]),9,104):=by kernel_rfl
theorem oK {z:Value}{n b:Nat}(h:(Tryz.prog.info? 65).map (fun i=>(i.zero,i.size,i.bytes))=some (some z,n,b)):∃i,Tryz.prog.info? 65=some i/\i.zero=some z/\i.size=n/\i.bytes=b:=by
 cases hi:Tryz.prog.info? 65 with
 | none=>rw[hi] at h;simp at h
 | some i =>
  rw[hi] at h
  simp at h
  exact⟨i,rfl,h.1,h.2.1,h.2.2⟩
def kH (p:Prop):Prop:=p
theorem kH.stop {p:Prop}(h:kH p):p:=h
theorem kH.go {p:Prop}(h:p):kH p:=h
theorem fZ (f:FV):f.cells.length=9:=rfl
theorem wE (fs:List FV):∀u∈fs.flatMap FV.cells,u.oneCell'=true:=by
 intro u hu
 obtain⟨s,_,hs⟩:=List.mem_flatMap.1 hu
 simp[FV.cells] at hs
 rcases hs with rfl|rfl|rfl|rfl|rfl|rfl|rfl|rfl|rfl<;>rfl
theorem aI {w w':World}{base:Nat}{e:TypeId}{size:Nat}{v:Value}{n:Nat}{xs:List Value}(h:w.ownsRow base e size v n xs)(hg:Grew w w'):w'.ownsRow base e size v n xs :=
 h.kept (hg.grownBy none) (Decidable.em _)
theorem kS {X:World}{base:Nat}{e:TypeId}{size:Nat}{v:Value}{n:Nat}{xs:List Value}(h:X.ownsRow base e size v n xs):∃A c,v=.slice A n c/\n<=c:=by
 rcases h.2 with⟨rfl,rfl⟩|⟨g,cap,cur,rfl,_,_,hn,_⟩
 ·exact⟨none,0,rfl,Nat.le_refl _⟩
 ·exact⟨_,_,rfl,hn⟩
theorem D7 {w:World}{base g n i cap m:Nat}{e:TypeId}{xs:List Value}(h:w.ownsRow base e m (.slice (some ⟨g,0,none⟩) n cap) n xs)(hi:i<=n):w.ownsRow base e m (.slice (some ⟨g,0,none⟩) i cap) i (xs.take (i*m)):=by
 have hm:i*m<=n*m:=Nat.mul_le_mul_right _ hi
 rcases h.2 with⟨h',_⟩|⟨g',cap',cur,h',hb,hg,hnc,hcm,hcs,htake⟩
 ·simp at h'
 ·simp only[Value.slice.injEq,Option.some.injEq,Addr.mk.injEq,and_true,true_and] at h'
  obtain⟨rfl,rfl⟩:=h'
  refine⟨by rw[List.length_take,h.1];omega,.inr ⟨g,cap,cur,rfl,hb,hg,by omega,hcm,hcs,?_⟩⟩
  rw[<-htake,List.take_take,Nat.min_eq_left hm]
theorem yU {base g n cap m:Nat}{e:TypeId}{xs:List Value}:∀ (zs:List Value) (w:World) (o:Nat),n*m<=o->w.ownsRow base e m (.slice (some ⟨g,0,none⟩) n cap) n xs->(w.setCells g o zs).ownsRow base e m (.slice (some ⟨g,0,none⟩) n cap) n xs
 | [],_,_,_,h=>h
 | z::zs,w,o,ho,h=>by
  have:=(h.stored o z).1
  rw[List.set_eq_of_length_le (by rw[h.1];exact ho)] at this
  exact yU zs _ (o+1) (by omega) this
theorem eY {w W:World}{b o:Nat}{v:Value}(h:w.grownBy W (some b)):w.grownBy (W.setCell ⟨b,o,none⟩ v) (some b):=by
 refine⟨h.os,h.tape,h.output,by simpa using h.size,fun k hk hne=>?_⟩
 rw[Below.heap_setCell W ⟨b,o,none⟩ v k (fun e=>hne (by rw[e]))]
 exact h.block k hk hne
theorem kR {w:World}{b:Nat}:∀ (vs:List Value) (W:World) (o:Nat),w.grownBy W (some b)->w.grownBy (W.setCells b o vs) (some b)
 | [],_,_,h=>h
 | v::vs,W,o,h=>kR vs _ (o+1) (eY h)
theorem mZ {w W W':World}{r:Option Nat}(h:w.grownBy W r)(hg:Grew W W'):w.grownBy W' r :=
 ⟨(hg.below.os).trans h.os,(hg.below.tape).trans h.tape,(hg.below.output).trans h.output,Nat.le_trans h.size hg.below.size,fun k hk hne=>(hg.heap (Nat.lt_of_lt_of_le hk h.size)).trans (h.block k hk hne)⟩
theorem vP {w:World}{base g n cap k:Nat}{fs:List FV}(h:w.ownsRow base 65 9 (.slice (some ⟨g,0,none⟩) n cap) n (fs.flatMap FV.cells))(hn:n=fs.length)(hk:k<fs.length):Un w g (k*9) (bF fs k)/\∀j,w.frozen? ⟨g,j,none⟩=false:=by
 have hc:∀ (j:Nat) (v:Value),j<9->(bF fs k).cells[j]?=some v->w.cell? ⟨g,k*9+j,none⟩=some v:=fun j v hj hv=>by
  rw[h.cellAt (k*9+j) (by omega)]
  exact (ig FV.cells 9 fZ fs k j v hj).2 ⟨_,dI hk,hv⟩
 exact⟨⟨hc 0 _ (by omega) rfl,hc 1 _ (by omega) rfl,hc 2 _ (by omega) rfl,hc 3 _ (by omega) rfl,hc 4 _ (by omega) rfl,hc 5 _ (by omega) rfl,hc 6 _ (by omega) rfl,hc 7 _ (by omega) rfl,hc 8 _ (by omega) rfl⟩,fun j=>h.frozenAt j⟩
abbrev adN (W:World)(g o:Nat)(f:FV):World:=((((((((W.setCell ⟨g,o,none⟩ (.int .i64 f.id)).setCell ⟨g,o+1,none⟩ (.int .i64 f.kind)).setCell ⟨g,o+2,none⟩ (.int .i64 f.x)).setCell ⟨g,o+3,none⟩ (.int .i64 f.y)).setCell ⟨g,o+4,none⟩ (.int .i64 f.dC)).setCell ⟨g,o+5,none⟩ (.slice f.aA f.area.length f.ac)).setCell ⟨g,o+6,none⟩ (.int .i64 f.dep)).setCell ⟨g,o+7,none⟩ (.int .i64 f.sym)).setCell ⟨g,o+8,none⟩ (.slice f.sA f.secs.length f.sc)
theorem Ld (f:FV):∀ (l:List FV) (i:Nat),(((((((((l.flatMap FV.cells).set (i*9) (.int .i64 f.id)).set (i*9+1) (.int .i64 f.kind)).set (i*9+2) (.int .i64 f.x)).set (i*9+3) (.int .i64 f.y)).set (i*9+4) (.int .i64 f.dC)).set (i*9+5) (.slice f.aA f.area.length f.ac)).set (i*9+6) (.int .i64 f.dep)).set (i*9+7) (.int .i64 f.sym)).set (i*9+8) (.slice f.sA f.secs.length f.sc)=(l.set i f).flatMap FV.cells
 | [],i=>by simp
 | a::l,0=>by simp[FV.cells]
 | a::l,i+1=>by
  have ih:=Ld f l i
  rw[List.set_cons_succ,List.flatMap_cons,List.flatMap_cons,<-ih]
  rw[show (i+1)*9=i*9+9 by omega]
  simp[FV.cells,show ∀j,i*9+9+j=(i*9+j)+1+1+1+1+1+1+1+1+1 by intro j;omega]
theorem PL {w:World}{base g n cap i:Nat}{fs:List FV}(h:w.ownsRow base 65 9 (.slice (some ⟨g,0,none⟩) n cap) n (fs.flatMap FV.cells))(f:FV):(adN w g (i*9) f).ownsRow base 65 9 (.slice (some ⟨g,0,none⟩) n cap) n ((fs.set i f).flatMap FV.cells):=by
 rw[<-Ld]
 exact (((((((((h.stored _ _).1.stored _ _).1.stored _ _).1.stored _ _).1.stored _ _).1.stored _ _).1.stored _ _).1.stored _ _).1.stored _ _).1
theorem Xb {w W:World}{g o:Nat}{f:FV}(h:w.grownBy W (some g)):w.grownBy (adN W g o f) (some g) :=
 eY (eY (eY (eY (eY (eY (eY (eY (eY h))))))))
theorem jB (fs:List FV)(A:Option Addr)(c:Nat)(w:World)(hr:Rd w w.heap.size 9 A (fs.map FV.cells))(hl:fs.length<=1000) :
  Calls Tryz.prog 25 #[.slice A fs.length c] w fun e w'=>∃v,e=.returned v/\w'.ownsRow w.heap.size 65 9 v fs.length (fs.flatMap FV.cells)/\Grew w w':=by
 have hm:=aP
 obtain⟨i0,hi,hz0,hz1,hz2⟩:=oK Le
 have hrx:=hr.reads fZ (by omega)
 cases A with
 | none =>
  have h0:fs=[]:=by
   rcases hr with h|⟨b,off,h,_⟩
   ·simpa using h
   ·cases h
  subst h0
  have hnil:∀W,(binOp .eql 23 (.slice none 0 c) (.slice none 0 0)).run Tryz.prog W=.ok (.bool true) W:=fun W=>by rw[Lib.run_eql_slice_nil (P:=Tryz.prog) W 23 _ _ _ _ _ _ Tryz.underlying23];rfl
  clear hr hrx
  dsimp only[List.length_nil]
  go_enter Tryz.func25,Tryz.ntmps25
  go_wp2_with fail
  go_ret
  exact⟨_,rfl,World.ownsRow_nil _ _ _ _,gw⟩
 | some a =>
  have hnil:∀W,(binOp .eql 23 (.slice (some a) fs.length c) (.slice none 0 0)).run Tryz.prog W=.ok (.bool false) W:=fun W=>by rw[Lib.run_eql_slice_nil (P:=Tryz.prog) W 23 _ _ _ _ _ _ Tryz.underlying23];rfl
  have HR:=hide hrx
  clear hrx hr
  go_enter Tryz.func25,Tryz.ntmps25
  go_wp2_with (at_builtin;refine kH.stop ?_)
  refine kH.go ?_
  have Oi:=World.ownsRow_lit (base:=w.heap.size) (e:=65) (size:=9) w #[] 0 (Nat.le_refl _) (by unfold maxLen;omega) rfl
  refine iw _ rfl (.tmp 5) (.tmp 6) _ rfl w.heap.size 65 i0 _ 9 104 Tryz.underlying23 hi hz0 hz1 hz2 rfl (by omega) _ 0 [] rfl Oi w.heap.size (some a) fs.length c (fs.flatMap FV.cells) rfl (HR.out.alloc (Nat.le_refl _) _) (wE _) (by simp only[maxLen];omega) (by omega) (by simp) ?_
  intro v' w1 hown1 hg1 _
  rw[Nat.zero_add,List.nil_append] at hown1
  have hb0:Below w.heap.size w (w.alloc (.cells #[] 65)):=(Grew.alloc (Grew.refl w) _).below
  have hb1:Below w.heap.size w w1:=hb0.grown hg1 hb0.size fun q hq=>(Oi.lt q hq).1
  have HO:=hide hown1
  have HB:=hide hb1
  clear Oi hown1 hg1 hb0 hb1
  go_wp2_with fail
  go_ret
  exact⟨_,rfl,HO.out,Grew.of_below HB.out⟩
def rO (P:FV->Bool)(fs:List FV)(j:Nat):List FV:=(fs.take j).filter fun f => !P f
structure nG (P:FV->Bool) (fs:List FV) (j i:Nat) (dk:List FV):Prop where
 size:dk.length=fs.length
 lt:i<j
 len:(rO P fs j).length=i
 low:∀m,m<i->dk[m]?=(rO P fs j)[m]?
 high:∀m,j<=m->dk[m]?=fs[m]?
theorem vX {P:FV->Bool}{fs:List FV}{j:Nat}(h:j<fs.length):rO P fs (j+1)=if P (bF fs j)=true then rO P fs j else rO P fs j++[bF fs j]:=by
 unfold rO
 rw[List.take_add_one,dI h,List.filter_append]
 by_cases hp:P (bF fs j)=true
 ·simp[hp]
 ·simp[hp]
theorem yz {P:FV->Bool}{fs:List FV}{j:Nat}(h:∀m,m<j->P (bF fs m)=false)(hj:j<=fs.length):rO P fs j=fs.take j:=by
 unfold rO
 rw[List.filter_eq_self]
 intro f hf
 obtain⟨m,hm,e⟩:=List.getElem_of_mem hf
 rw[List.length_take] at hm
 rw[List.getElem_take] at e
 have:=h m (by omega)
 unfold bF at this
 rw[List.getD_eq_getElem?_getD,List.getElem?_eq_getElem (by omega)] at this
 simp only[Option.getD_some] at this
 rw[e] at this
 simp[this]
theorem uw (P:FV->Bool)(fs:List FV):rO P fs fs.length=fs.filter fun f => !P f:=by unfold rO;rw[List.take_length]
theorem nG.start {P:FV->Bool}{fs:List FV}{k:Nat}(h:∀m,m<k->P (bF fs m)=false)(hk:k<fs.length)(hp:P (bF fs k)=true):nG P fs (k+1) k fs:=by
 have e:=vX (P:=P) hk
 rw[if_pos hp,yz h (by omega)] at e
 refine⟨rfl,by omega,by rw[e,List.length_take];omega,fun m hm=>?_,fun m _=>rfl⟩
 rw[e,List.getElem?_take,if_pos hm]
theorem nG.skip {P:FV->Bool}{fs dk:List FV}{j i:Nat}(h:nG P fs j i dk)(hj:j<fs.length)(hp:P (bF fs j)=true):nG P fs (j+1) i dk:=by
 have e:=vX (P:=P) hj
 rw[if_pos hp] at e
 have:=h.lt
 exact⟨h.size,by omega,by rw[e];exact h.len,fun m hm=>by rw[e];exact h.low m hm,fun m hm=>h.high m (by omega)⟩
theorem nG.keep {P:FV->Bool}{fs dk:List FV}{j i:Nat}(h:nG P fs j i dk)(hj:j<fs.length)(hp:P (bF fs j)=false):nG P fs (j+1) (i+1) (dk.set i (bF fs j)):=by
 have e:=vX (P:=P) hj
 rw[if_neg (by simp[hp])] at e
 have hl:=h.len
 have hs:=h.size
 have hlt:=h.lt
 refine⟨by rw[List.length_set];exact hs,by omega,by rw[e,List.length_append];simp[hl],fun m hm=>?_,fun m hm=>?_⟩
 ·rw[e]
  by_cases Oh:m=i
  ·subst Oh
   rw[List.getElem?_set_self (by omega),List.getElem?_append_right (by omega),hl]
   simp
  ·rw[List.getElem?_set_ne (by omega),h.low m (by omega),List.getElem?_append_left (by omega)]
 ·rw[List.getElem?_set_ne (by omega)]
  exact h.high m (by omega)
theorem nG.done {P:FV->Bool}{fs dk:List FV}{i:Nat}(h:nG P fs fs.length i dk):dk.take i=fs.filter (fun f => !P f)/\(fs.filter fun f => !P f).length=i:=by
 have hl:=h.len
 have hs:=h.size
 have hlt:=h.lt
 rw[uw] at hl
 refine⟨?_,hl⟩
 apply List.ext_getElem?
 intro m
 rw[List.getElem?_take]
 by_cases hm:m<i
 ·rw[if_pos hm,h.low m hm,uw]
 ·rw[if_neg hm,List.getElem?_eq_none (by omega)]
theorem wY:∀ (l:List FV) (i:Nat),(l.flatMap FV.cells).take (i*9)=(l.take i).flatMap FV.cells
 | [],i=>by simp
 | a::l,0=>by simp
 | a::l,i+1=>by
  rw[List.take_succ_cons,List.flatMap_cons,List.flatMap_cons,<-wY l i,List.take_append,fZ,show (i+1)*9-9=i*9 by omega,List.take_of_length_le (by rw[fZ];omega)]
theorem ET (w:World)(b o n c:Nat)(hn:0<n)(hc:∀j,j<n*9->(w.cell? ⟨b,o+j,none⟩).isSome=true)(hf:∀j,j<n*9->w.frozen? ⟨b,o+j,none⟩=false) :
  ∃zs:List Value,∀ty,(Builtin.clear_ #[23] ty #[.slice (some ⟨b,o,none⟩) n c]).run Tryz.prog w=.ok (.tuple #[]) (w.setCells b o zs):=by
 refine⟨(Builtin.zeroCells #[.int .i64 0,.int .i64 0,.int .i64 0,.int .i64 0,.int .i64 0,.slice none 0 0,.int .i64 0,.int .i64 0,.slice none 0 0] n).toList,fun ty=>?_⟩
 have hl:(Builtin.zeroCells #[.int .i64 0,.int .i64 0,.int .i64 0,.int .i64 0,.int .i64 0,.slice none 0 0,.int .i64 0,.int .i64 0,.slice none 0 0] n).toList.length=n*9:=by simp[Builtin.zeroCells]
 have h1:∀v∈(Builtin.zeroCells #[.int .i64 0,.int .i64 0,.int .i64 0,.int .i64 0,.int .i64 0,.slice none 0 0,.int .i64 0,.int .i64 0,.slice none 0 0] n).toList,v.oneCell'=true:=by
  intro v hv
  simp[Builtin.zeroCells] at hv
  obtain⟨a,ha,rfl⟩:=hv
  have:a%9=0\/a%9=1\/a%9=2\/a%9=3\/a%9=4\/a%9=5\/a%9=6\/a%9=7\/a%9=8:=by omega
  rcases this with h|h|h|h|h|h|h|h|h<;>simp[h,Value.oneCell']
 have hst:=run_storeCells_cells (P:=Tryz.prog) b o (Builtin.zeroCells #[.int .i64 0,.int .i64 0,.int .i64 0,.int .i64 0,.int .i64 0,.slice none 0 0,.int .i64 0,.int .i64 0,.slice none 0 0] n).toList 0 w (by rw[hl];simpa using hc) (by rw[hl];simpa using hf) h1
 simp only[Nat.add_zero] at hst
 obtain⟨m,rfl⟩:∃m,n=m+1:=⟨n-1,by omega⟩
 simp[Builtin.clear_,run_underlying Tryz.underlying23,Tryz.zeroValue65,Value.cells,hst]
theorem rowAt {w:World}{B:Nat}{A:Option Addr}{fs:List FV}{k:Nat}(h:Rd w B 9 A (fs.map FV.cells))(hk:k<fs.length) :
  ∃b off,Hid (A=some ⟨b,off,none⟩)/\b<B/\Un w b (off+k*9) (bF fs k):=by
 obtain⟨b,off,hA,hb,hc⟩:=h.at_ (k:=k) (x:=(bF fs k).cells) (by simp[dI hk])
 exact⟨b,off,hA,hb,hc 0 _ rfl,hc 1 _ rfl,hc 2 _ rfl,hc 3 _ rfl,hc 4 _ rfl,hc 5 _ rfl,hc 6 _ rfl,hc 7 _ rfl,hc 8 _ rfl⟩
def X7 (P:FV->Bool)(fs:List FV)(e:Ending):Prop:=(e=.returned (.int .i64 (-1))/\∀m,m<fs.length->P (bF fs m)=false)\/(∃k:Nat,k<fs.length/\e=.returned (.int .i64 k)/\P (bF fs k)=true/\∀m,m<k->P (bF fs m)=false)
end Go.Proofs.YtlkgjmnjhifehaaGreat
