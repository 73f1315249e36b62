/- The reference's comparisons at equal lists: places, sectors, features; lists of features that lie in a block. -/
import Derived.Test.YtlkgjmnjhifehaaGreatFeE
import Derived.Test.YtlkgjmnjhifehaaGreatRuY
set_option linter.unusedSimpArgs false
set_option linter.unusedVariables false
namespace Go.Proofs.YtlkgjmnjhifehaaGreat
open Go.RowKit Go.Sort
attribute [local go_sem] dA steadyUpon
attribute [local go_sem ↓] bU bI aX aW aV aU aT
attribute [local go_sem] bH aK aJ size_grow tape_grow cell?_grow' aF aB grow_grow bW aY dR cO bY bK aN cZ aZ bZ bJ
attribute [local irreducible] wpSteady
theorem OM {f g:FV}(h:f.bare=g.bare):g={ f with aA:=g.aA,ac:=g.ac,sA:=g.sA,sc:=g.sc }:=by
 obtain⟨id,kind,x,y,dC,aA,ac,area,dep,sym,sA,sc,secs⟩:=f
 obtain⟨id',kind',x',y',ai4,aA',ac',air,ajW,aiX,sA',sc',ahN⟩:=g
 simp only[FV.bare,FV.mk.injEq] at h
 obtain⟨rfl,rfl,rfl,rfl,rfl,_,_,rfl,rfl,rfl,_,_,rfl⟩:=h
 rfl
theorem QD {fs gs:List FV}(h:fs.map FV.bare=gs.map FV.bare)(k:Nat):(bF fs k).bare=(bF gs k).bare:=by
 have e:∀l:List FV,(bF l k).bare=(l.map FV.bare).getD k default:=fun l=>by
  unfold bF
  rw[List.getD_eq_getElem?_getD,List.getD_eq_getElem?_getD,List.getElem?_map]
  cases l[k]?<;>rfl
 rw[e,e,h]
theorem Rd.ae5 {α:Type}{Zt:α->List Value}{m:Nat}(hm:∀a,(Zt a).length=m){W:World}{b:Nat}{cs:Array Value}{T:TypeId}(ss:List α)(h:W.heap[b]?=some (.cells cs T (0,0)))(hc:cs.toList=ss.flatMap Zt):Rd W W.heap.size m (some ⟨b,0,none⟩) (ss.map Zt):=by
 refine .inr ⟨b,0,rfl,au h,fun k x hx j u hu=>?_⟩
 rw[List.getElem?_map] at hx
 obtain⟨s,hs,rfl⟩:=Option.map_eq_some_iff.1 hx
 have hj:j<m:=by rw[<-hm s];exact (List.getElem?_eq_some_iff.1 hu).1
 rw[Nat.zero_add,ag h,<-Array.getElem?_toList,hc]
 exact (ig Zt m hm ss k j u hj).2 ⟨s,hs,hu⟩
end Go.Proofs.YtlkgjmnjhifehaaGreat
