/- The relation 'Grew' between two worlds (some draws, some new blocks, nothing else), and how the walk sees through it. No condition. -/
import Derived.WalkKit
import Derived.WalkSpells
import Derived.BigQuiet
import Derived.Deep.QuietTactic
import Derived.Shelf.SlSortCmp.QuietGrown
import Derived.RegionTactic
import Derived.Outline
import Derived.Below
import Derived.Laws.OwnMore
import Derived.Deep.AppendLies
import Derived.Deep.Draws
set_option linter.unusedSimpArgs false
set_option linter.unusedVariables false
namespace Go.Proofs.YtlkgjmnjhifehaaGreat
open Go.RowKit Go.Sort
def dr (w:World)(d:Nat):World:={ w with drawn:=d }
def Grew (w w':World):Prop:=∃p:GrownBy,w'=grow (dr w p.n) p.os
theorem Grew.refl (w:World):Grew w w:=⟨⟨w.drawn,#[]⟩,by simp[dr]⟩
theorem Grew.mk (w:World)(n:Nat)(os:Array Obj):Grew w (grow (dr w n) os):=⟨⟨n,os⟩,rfl⟩
theorem dR (w:World)(n m:Nat):dr (dr w n) m=dr w m:=rfl
theorem Grew.trans {a b c:World}(h:Grew a b)(k:Grew b c):Grew a c:=by
 obtain⟨⟨n,os⟩,rfl⟩:=h
 obtain⟨⟨m,os'⟩,rfl⟩:=k
 exact⟨⟨m,os++os'⟩,by show grow (grow (dr a m) os) os'=_;rw[grow_grow]⟩
theorem Grew.grow {a w:World}(h:Grew a w)(os:Array Obj):Grew a (grow w os):=h.trans ⟨⟨w.drawn,os⟩,rfl⟩
theorem Grew.dr {a w:World}(h:Grew a w)(n:Nat):Grew a (dr w n):=h.trans ⟨⟨n,#[]⟩,by simp⟩
theorem Grew.drewN {a w:World}(h:Grew a w)(n:Nat):Grew a (w.drewN n):=h.dr _
theorem Grew.drew {a w:World}(h:Grew a w):Grew a w.drew:=h.dr _
theorem Grew.alloc {a w:World}(h:Grew a w)(o:Obj):Grew a (w.alloc o):=by rw[alloc_eq_grow];exact h.grow _
theorem gw {a b:World}(h:Grew a b:=by repeat (with_reducible first|exact Grew.refl _|assumption|refine Grew.alloc ?_ _|refine Grew.grow ?_ _|refine Grew.dr ?_ _|refine Grew.drewN ?_ _|refine Grew.drew ?_|refine Grew.trans ?_ (Hid.out (by assumption)))):Grew a b:=h
theorem Grew.below {w w':World}(h:Grew w w'):Below w.heap.size w w':=by
 obtain⟨⟨n,os⟩,rfl⟩:=h
 exact⟨rfl,rfl,rfl,by simp[Go.Proofs.YtlkgjmnjhifehaaGreat.dr],fun k hk=>heap_grow_old _ _ hk⟩
theorem Grew.of_below {w w':World}(h:Below w.heap.size w w'):Grew w w':=by
 refine⟨⟨w'.drawn,w'.heap.extract w.heap.size w'.heap.size⟩,?_⟩
 have hh:w'.heap=w.heap++w'.heap.extract w.heap.size w'.heap.size:=by
  apply Array.ext_getElem?
  intro i
  rw[Array.getElem?_append]
  by_cases hi:i<w.heap.size
  ·rw[if_pos hi];exact h.block i hi
  ·rw[if_neg hi,Array.getElem?_extract]
   have e:w.heap.size+(i-w.heap.size)=i:=by omega
   rw[e]
   by_cases h2:i<w'.heap.size
   ·rw[if_pos (by have:=h.size;omega)]
   ·rw[if_neg (by omega),Array.getElem?_eq_none (by omega)]
 have h1:=h.os
 have h2:=h.tape
 have h3:=h.output
 cases w'
 cases w
 simp only[Sort.grow,Go.Proofs.YtlkgjmnjhifehaaGreat.dr] at *
 subst h1 h2 h3
 rw[<-hh]
def aC (w:World)(v:Value)(e:Ending)(w':World):Prop:=e=.returned v/\Grew w w'
theorem aC.mk' {w w':World}{v u:Value}(h:u=v)(g:Grew w w'):aC w v (.returned u) w':=⟨by rw[h],g⟩
theorem aC.out {w w':World}{v:Value}{e:Ending}(h:aC w v e w'):e=.returned v/\∃n os,w'=Sort.grow (dr w n) os:=⟨h.1,h.2.elim fun p hp=>⟨p.n,p.os,hp⟩⟩
theorem aQ {P:Program}{f:FuncId}{args:Array Value}{w u:World}{v:Value}{post:Ending->World->Prop}(h:Calls P f args w (aC u v))(k:∀n os,post (.returned v) (Sort.grow (dr u n) os)):Calls P f args w post:=h.mono (by rintro e w' ⟨rfl,⟨_,_⟩,rfl⟩;exact k _ _)
theorem aG {α:Type}:(∀ (l:List α) (i:Nat) (a:α),l.toArray.setIfInBounds i a=(l.set i a).toArray)/\(∀ (x a:α) (xs:List α),(x::xs).set 0 a=a::xs)/\(∀ (x:α) (xs:List α) (n:Nat) (a:α),(x::xs).set (n+1) a=x::xs.set n a):=⟨fun _ _ _=>List.setIfInBounds_toArray ..,fun _ _ _=>rfl,fun _ _ _ _=>rfl⟩
theorem bT {α:Type}:(∀ (xs:List α) (i:Nat) (h:i<xs.toArray.size),xs.toArray[i]=xs[i]'(by simpa using h))/\(∀ (a:α) (l:List α) (h:0<(a::l).length),(a::l)[0]=a)/\(∀ (a:α) (l:List α) (i:Nat) (h:i+1<(a::l).length),(a::l)[i+1]=l[i]'(Nat.lt_of_succ_lt_succ h)):=⟨fun _ _ _=>List.getElem_toArray ..,fun _ _ _=>rfl,fun _ _ _ _=>rfl⟩
theorem World.mG (w:World)(o:Obj):(w.alloc o).heap.size=w.heap.size+1:=by simp
theorem cell?_grow' (w:World)(os:Array Obj)(b i:Nat)(h:b<w.heap.size):(Sort.grow w os).cell? ⟨b,i,none⟩=w.cell? ⟨b,i,none⟩:=cell?_grow w os ⟨b,i,none⟩ h
theorem aF (w:World)(os:Array Obj)(b i:Nat)(h:b<w.heap.size):(Sort.grow w os).frozen? ⟨b,i,none⟩=w.frozen? ⟨b,i,none⟩:=frozen?_grow w os ⟨b,i,none⟩ h
theorem aB (w:World)(os:Array Obj)(b i:Nat)(v:Value)(h:b<w.heap.size):(Sort.grow w os).setCell ⟨b,i,none⟩ v=Sort.grow (w.setCell ⟨b,i,none⟩ v) os:=by
 simp only[World.setCell,Sort.grow,modify_append_left _ _ _ _ h]
theorem bH (w:World)(n:Nat)(os:Array Obj)(b i:Nat)(h:b<w.heap.size):(Sort.grow (dr w n) os).cell? ⟨b,i,none⟩=w.cell? ⟨b,i,none⟩:=cell?_grow (dr w n) os ⟨b,i,none⟩ h
theorem aK (w:World)(n:Nat)(os:Array Obj)(b i:Nat)(h:b<w.heap.size):(Sort.grow (dr w n) os).frozen? ⟨b,i,none⟩=w.frozen? ⟨b,i,none⟩:=frozen?_grow (dr w n) os ⟨b,i,none⟩ h
theorem aJ (w:World)(n:Nat)(os:Array Obj)(b i:Nat)(v:Value)(h:b<w.heap.size):(Sort.grow (dr w n) os).setCell ⟨b,i,none⟩ v=Sort.grow (dr (w.setCell ⟨b,i,none⟩ v) n) os :=
 aB (dr w n) os b i v h
theorem bW (w:World)(os:Array Obj)(n:Nat):dr (Sort.grow w os) n=Sort.grow (dr w n) os:=rfl
theorem aY (w:World)(os:Array Obj):(Sort.grow w os).drew=Sort.grow (dr w (w.drawn+1)) os:=rfl
theorem cO (w:World)(n:Nat):(dr w n).drew=dr w (n+1):=rfl
theorem bY (w:World)(n:Nat):dr w.drew n=dr w n:=rfl
theorem bK (w:World)(o:Obj)(n:Nat):(dr w n).alloc o=dr (w.alloc o) n:=rfl
theorem aN (w:World)(a:Addr)(v:Value)(n:Nat):(dr w n).setCell a v=dr (w.setCell a v) n:=rfl
theorem cZ (w:World)(a:Addr)(n:Nat):(dr w n).cell? a=w.cell? a:=Eq.trans rfl rfl
theorem aZ (w:World)(a:Addr)(n:Nat):(dr w n).frozen? a=w.frozen? a:=Eq.trans rfl rfl
theorem bZ (w:World)(n:Nat):(dr w n).tape=w.tape:=rfl
theorem bJ (w:World)(n:Nat):(dr w n).drawn=n:=rfl
theorem bI {a b c:Nat}(h:a<b):(a<b+c)=True:=by simp;omega
theorem aX {a b c d:Nat}(h:a<b):(a<b+c+d)=True:=by simp;omega
theorem aW {a b c d e:Nat}(h:a<b):(a<b+c+d+e)=True:=by simp;omega
theorem aV {a b c d e f:Nat}(h:a<b):(a<b+c+d+e+f)=True:=by simp;omega
theorem aU {a b c d e f g:Nat}(h:a<b):(a<b+c+d+e+f+g)=True:=by simp;omega
theorem aT {a b c d e f g i:Nat}(h:a<b):(a<b+c+d+e+f+g+i)=True:=by simp;omega
abbrev pt (a b:Int):Value:=.agg #[.int .i64 a,.int .i64 b]
theorem l9 {k:IntKind}{a b:Int}(h:a=b):(Value.int k a)=(.int k b):=by rw[h]
theorem dU {a b:Bool}(h:a=b):(Value.bool a)=(.bool b):=by rw[h]
theorem yR {a b c d:Value}(h:a=c)(k:b=d):Value.tuple #[a,b]=.tuple #[c,d]:=by rw[h,k]
theorem J6 {a b c d e f:Value}(h:a=d)(k:b=e)(l:c=f):Value.tuple #[a,b,c]=.tuple #[d,e,f]:=by rw[h,k,l]
theorem jc {a b:Int}(A B:Nat)(ha:-(A:Int)<=a/\a<=A)(hb:-(B:Int)<=b/\b<=B):-((A*B:Nat):Int)<=a*b/\a*b<=((A*B:Nat):Int):=by
 have h1:a.natAbs<=A:=by omega
 have h2:b.natAbs<=B:=by omega
 have h3:(a*b).natAbs<=A*B:=by rw[Int.natAbs_mul];exact Nat.mul_le_mul h1 h2
 omega
def Rd (w:World)(B m:Nat)(A:Option Addr)(xs:List (List Value)):Prop :=
 xs=[]\/∃b off,A=some ⟨b,off,none⟩/\b<B/\∀k x,xs[k]?=some x->∀j v,x[j]?=some v->w.cell? ⟨b,off+k*m+j,none⟩=some v
section
variable {w w':World} {B B' m:Nat} {A:Option Addr} {xs:List (List Value)}
theorem Rd.nil (w:World)(B m:Nat)(A:Option Addr):Rd w B m A []:=.inl rfl
theorem Rd.keep (h:Rd w B m A xs)(hk:∀b i,b<B->w'.cell? ⟨b,i,none⟩=w.cell? ⟨b,i,none⟩):Rd w' B m A xs :=
 h.elim .inl fun ⟨b,off,hA,hb,hc⟩=>.inr ⟨b,off,hA,hb,fun k x hx j v hv=>(hk _ _ hb).trans (hc k x hx j v hv)⟩
theorem Rd.mono (h:Rd w B m A xs)(hB:B<=B'):Rd w B' m A xs :=
 h.elim .inl fun ⟨b,off,hA,hb,hc⟩=>.inr ⟨b,off,hA,by omega,hc⟩
theorem Rd.below (h:Rd w B m A xs)(hb:Below B w w'):Rd w' B m A xs:=h.keep fun _ _ hp=>hb.cell hp
theorem Rd.grew (h:Rd w B m A xs)(hg:Grew w w')(hB:B<=w.heap.size):Rd w' B m A xs:=h.keep fun _ _ hp=>hg.below.cell (Nat.lt_of_lt_of_le hp hB)
theorem Rd.up (h:Rd w w.heap.size m A xs)(hg:Grew w w'):Rd w' w'.heap.size m A xs:=(h.grew hg (Nat.le_refl _)).mono hg.below.size
theorem Rd.take (h:Rd w B m A xs)(i:Nat):Rd w B m A (xs.take i) :=
 h.elim (fun h=>.inl (by rw[h];simp)) fun ⟨b,off,hA,hb,hc⟩=>.inr ⟨b,off,hA,hb,fun k x hx j v hv=>hc k x (by
  rw[List.getElem?_take] at hx
  split at hx
  ·exact hx
  ·cases hx) j v hv⟩
theorem Rd.at_ (h:Rd w B m A xs){k:Nat}{x:List Value}(hx:xs[k]?=some x):∃b off,A=some ⟨b,off,none⟩/\b<B/\∀j v,x[j]?=some v->w.cell? ⟨b,off+k*m+j,none⟩=some v:=by
 rcases h with h|⟨b,off,hA,hb,hc⟩
 ·rw[h] at hx;simp at hx
 ·exact⟨b,off,hA,hb,hc k x hx⟩
end
theorem hide {p:Prop}(h:p):Hid p:=h
theorem bU (w:World)(n:Nat):(dr w n).heap.size=w.heap.size:=Eq.trans rfl rfl
theorem rV (b off n:Nat):(⟨b,off,none⟩:Addr).add n=⟨b,off+n,none⟩:=by unfold Addr.add;split<;>simp_all
theorem aO {P:Program}{t e:TypeId}{len cap k m b off:Nat}{A:Option Addr}(ht:P.underlying t=some (.slice e))(hs:∀w,(sizeOf e).run P w=.ok m w)(hA:A=some ⟨b,off,none⟩)(hk:k<len) :
  ∀w,(Instr.indexAt t (.slice A len cap) (.int .i64 (k:Int))).run P w=.ok (.pointer (some ⟨b,off+k*m,none⟩)) w:=by
 intro w
 subst hA
 have hl:(0:Int)<=(k:Int)/\(k:Int)<(len:Int):=by omega
 simp[Instr.indexAt,run_underlying ht,asIntOf,hs,hl,rV]
 omega
theorem oI {P:Program}{t e:TypeId}{len cap m b off:Nat}{A:Option Addr}(ht:P.underlying t=some (.slice e))(hs:∀w,(sizeOf e).run P w=.ok m w)(hA:A=some ⟨b,off,none⟩)(hk:0<len) :
  ∀w,(Instr.indexAt t (.slice A len cap) (.int .i64 0)).run P w=.ok (.pointer (some ⟨b,off,none⟩)) w:=by
 intro w
 have:=aO (cap:=cap) (k:=0) ht hs hA hk w
 simpa using this
end Go.Proofs.YtlkgjmnjhifehaaGreat
