/- Package rule: the kinds of rules. -/
import Derived.Test.YtlkgjmnjhifehaaGreatPgX
import Derived.Deep.RegionHeld3
set_option linter.unusedSimpArgs false
set_option linter.unusedVariables false
set_option maxHeartbeats 4000000
set_option maxRecDepth 100000
namespace Go.Proofs.YtlkgjmnjhifehaaGreat
open Go.RowKit Go.Sort
attribute [local go_sem] dA steadyUpon
attribute [local go_sem ↓] bU bI aX aW aV aU aT
attribute [local go_sem] bH aK aJ size_grow tape_grow cell?_grow' aF aB grow_grow bW aY dR cO bY bK aN cZ aZ bZ bJ
attribute [local irreducible] wpSteady
def Jf (n:Int):List Value:=[.int .i64 n]
theorem aeb {w:World}{B:Nat}{A:Option Addr}{ks:List Int}{k:Nat}{x:Int}(h:Rd w B 1 A (ks.map Jf))(hk:ks[k]?=some x):∃b off,Hid (A=some ⟨b,off,none⟩)/\b<B/\w.cell? ⟨b,off+k,none⟩=some (.int .i64 x):=by
 obtain⟨b,off,hA,hb,hc⟩:=h.at_ (k:=k) (x:=Jf x) (by simp[hk])
 have:=hc 0 _ rfl
 rw[Nat.mul_one] at this
 exact⟨b,off,hA,hb,this⟩
def ag7 (x:Int)(ks:List Int)(e:Ending):Prop:=(e=.returned (.int .i64 (-1))/\ks.contains x=false)\/(∃k:Nat,e=.returned (.int .i64 k)/\ks.contains x=true)
theorem Sl (ks:List Int)(A:Option Addr)(c:Nat)(x:Int)(w:World)(hr:Rd w w.heap.size 1 A (ks.map Jf))(hc:ks.length<=100000000000000) :
  Calls Tryz.prog 149 #[.slice A ks.length c,.int .i64 x] w fun e w'=>ag7 x ks e/\Grew w w':=by
 have hm:=aP
 have HR:=hide hr
 clear hr
 go_enter Tryz.func149,Tryz.ntmps149
 go_wp2_with fail
 go_loopw [8] (fun i wr=>∃k:Nat,k<=ks.length/\i=.int .i64 k/\Grew w wr/\wW ((ks.take k).contains x=false)) (fun i _=>ks.length-(intOf i).toNat)
 case atStart=>exact⟨0,by omega,rfl,gw,show (ks.take 0).contains x=false from by simp⟩
 case round =>
  obtain⟨k,hk,rfl,hg,hall⟩:=hrel
  have HG:=hide hg
  have HA:=hide hall.stop
  clear hg hall
  by_cases hlt:k<ks.length
  ·obtain⟨y,hy⟩:∃y,ks[k]?=some y:=⟨_,List.getElem?_eq_getElem hlt⟩
   obtain⟨b,off,hA,hb,h0⟩:=aeb (HR.out.up HG.out) hy
   have hix:=aO (cap:=c) Tryz.underlying39 Tryz.sizeOf3 hA.out hlt
   rw[Nat.mul_one] at hix
   have hs:(ks.take (k+1)).contains x=(x==y):=by
    rw[List.take_add_one,hy]
    have:=HA.out
    simp only[List.contains_eq_mem,List.mem_append,decide_eq_false_iff_not] at this ⊢
    rw[Bool.eq_iff_iff]
    simp[this]
   have HS:=hide hs
   have HY:=hide hy
   clear hs hy hA
   by_cases hxy:x=y
   ·subst hxy
    go_wp2_with fail
    go_ret
    refine⟨.inr ⟨k,rfl,?_⟩,HG.out.trans gw⟩
    rw[List.contains_eq_mem,decide_eq_true_eq]
    exact List.mem_of_getElem? HY.out
   ·have agf:(x==y)=false:=by simpa using hxy
    go_wp2_with fail
    go_roundw
    case rel=>exact⟨k+1,by omega,by go_num,HG.out.trans gw,show (ks.take (k+1)).contains x=false from by rw[HS.out,agf]⟩
    case measure=>simp[intOf];omega
  ·obtain rfl:k=ks.length:=by omega
   rw[List.take_length] at HA
   go_wp2_with fail
   go_ret
   exact⟨.inl ⟨rfl,HA.out⟩,HG.out⟩
theorem Tt (ks:List Int)(A:Option Addr)(c:Nat)(x:Int)(r:Bool)(w:World)(hr:Rd w w.heap.size 1 A (ks.map Jf))(hc:ks.length<=100000000000000)(h:ks.contains x=r) :
  Calls Tryz.prog 129 #[.slice A ks.length c,.int .i64 x] w (aC w (.bool r)):=by
 have hm:=aP
 have k1:=hide (fun W (hg:Grew w W)=>Sl ks A c x W (hr.up hg) hc)
 have HH:=hide h
 clear h hr
 go_enter Tryz.func129,Tryz.ntmps129
 go_wp2_with fail
 refine (k1.out _ gw).mono ?_
 rintro e w' ⟨h,⟨⟨n1,os1⟩,rfl⟩⟩
 rcases h with⟨rfl,hr2⟩|⟨k,rfl,hr2⟩
 ·obtain rfl:r=false:=by rw[<-HH.out,hr2]
  dsimp only
  go_wp2_with fail
  go_ret
  exact aC.mk' rfl gw
 ·obtain rfl:r=true:=by rw[<-HH.out,hr2]
  have hk0:0<=(k:Int):=by omega
  dsimp only
  go_wp2_with fail
  go_ret
  exact aC.mk' (by simp) gw
theorem ae0 (s:Value)(ks:List Int)(A:Option Addr)(c:Nat)(l m:Int)(f:Value)(x:Int)(r:Bool)(w:World)(hr:Rd w w.heap.size 1 A (ks.map Jf))(hc:ks.length<=100000000000000)(h:ks.contains x=r) :
  Calls Tryz.prog 98 #[.agg #[s,.slice A ks.length c,.int .i64 l,.int .i64 m,f],.int .i64 x] w (aC w (.bool r)):=by
 have hm:=aP
 have k1:=hide (fun W (hg:Grew w W)=>Tt ks A c x r W (hr.up hg) hc h)
 clear h hr
 go_enter Tryz.func98,Tryz.ntmps98
 go_wp2_with (go_at_call 129;with_reducible refine aQ (k1.out _ gw) fun _ _=>?_;dsimp only)
 go_ret
 exact aC.mk' rfl gw
theorem acz (s:Value)(A:Option Addr)(n c:Nat)(l m:Int)(f:Value)(x:Int)(r:Bool)(w:World)(h:decide (l<=x/\x<=m)=r) :
  Calls Tryz.prog 99 #[.agg #[s,.slice A n c,.int .i64 l,.int .i64 m,f],.int .i64 x] w (aC w (.bool r)):=by
 have hm:=aP
 subst h
 by_cases h1:l<=x
 ·go_enter Tryz.func99,Tryz.ntmps99
  go_wp2_with fail
  go_ret
  exact aC.mk' (dU (by simp[h1])) gw
 ·have h2:decide (l<=x)=false:=decide_eq_false h1
  go_enter Tryz.func99,Tryz.ntmps99
  go_wp2_with fail
  go_ret
  exact aC.mk' (dU (by simp[h1])) gw
def nU (o:Int):List Int:=if o=1 then [0] else if o=2 then [1,2,3,5] else if o=3 then [1,2,5] else if o=4 then [1,2,5] else if o=5 then [3,6] else []
def yY (o:Int):Int:=if o=1 then 1 else if o=2 then 1 else 0
def Iz (o:Int):Int:=if o=1 then 100000 else if o=2 then 1000 else if o=3 then 100000 else if o=4 then 100000 else 0
structure jq (w':World) (g b1 b2 b3 b4 b5:Nat):Prop where
 row:w'.heap[g]?=some (.cells #[.string ⟨#[]⟩,.slice none 0 0,.int .i64 0,.int .i64 0,.nilFunc,
  .string ⟨#[99,97,112]⟩,.slice (some ⟨b1,0,none⟩) 1 1,.int .i64 1,.int .i64 100000,.nilFunc,
  .string ⟨#[114,111,117,110,100]⟩,.slice (some ⟨b2,0,none⟩) 4 4,.int .i64 1,.int .i64 1000,.func (.func 126) #[] #[],
  .string ⟨#[116,104,105,110]⟩,.slice (some ⟨b3,0,none⟩) 3 3,.int .i64 0,.int .i64 100000,.nilFunc,
  .string ⟨#[103,114,111,119]⟩,.slice (some ⟨b4,0,none⟩) 3 3,.int .i64 0,.int .i64 100000,.func (.func 127) #[] #[],
  .string ⟨#[98,111,120]⟩,.slice (some ⟨b5,0,none⟩) 2 2,.int .i64 0,.int .i64 0,.func (.func 128) #[] #[]] 161 (0,0))
 k1:w'.heap[b1]?=some (.cells #[.int .i64 0] 3 (0,0))
 k2:w'.heap[b2]?=some (.cells #[.int .i64 1,.int .i64 2,.int .i64 3,.int .i64 5] 3 (0,0))
 k3:w'.heap[b3]?=some (.cells #[.int .i64 1,.int .i64 2,.int .i64 5] 3 (0,0))
 k4:w'.heap[b4]?=some (.cells #[.int .i64 1,.int .i64 2,.int .i64 5] 3 (0,0))
 k5:w'.heap[b5]?=some (.cells #[.int .i64 3,.int .i64 6] 3 (0,0))
theorem jq.up {w w':World}{g b1 b2 b3 b4 b5:Nat}(h:jq w g b1 b2 b3 b4 b5)(hg:Grew w w'):jq w' g b1 b2 b3 b4 b5 :=
 ⟨(hg.heap (au h.row)).trans h.row,(hg.heap (au h.k1)).trans h.k1,(hg.heap (au h.k2)).trans h.k2,(hg.heap (au h.k3)).trans h.k3,(hg.heap (au h.k4)).trans h.k4,(hg.heap (au h.k5)).trans h.k5⟩
def adl (w:World)(e:Ending)(w':World):Prop:=∃g b1 b2 b3 b4 b5,e=.returned (.slice (some ⟨g,0,none⟩) 6 6)/\jq w' g b1 b2 b3 b4 b5/\Grew w w'
theorem gq (w:World):Calls Tryz.prog 96 #[] w (adl w):=by
 have hm:=aP
 go_enter Tryz.func96,Tryz.ntmps96
 go_wp2_with fail
 go_ret
 refine⟨w.heap.size+1+1+1+1+1,w.heap.size,w.heap.size+1,w.heap.size+1+1,w.heap.size+1+1+1,w.heap.size+1+1+1+1,rfl,⟨?_,?_,?_,?_,?_,?_⟩,gw⟩
 ·exact az _ _ _ (by simp)
 ·exact (heap_alloc_old _ _ (by first|omega|(simp;done)|(simp;omega))).trans ((heap_alloc_old _ _ (by first|omega|(simp;done)|(simp;omega))).trans ((heap_alloc_old _ _ (by first|omega|(simp;done)|(simp;omega))).trans ((heap_alloc_old _ _ (by first|omega|(simp;done)|(simp;omega))).trans ((heap_alloc_old _ _ (by first|omega|(simp;done)|(simp;omega))).trans (az _ _ _ (by simp))))))
 ·exact (heap_alloc_old _ _ (by first|omega|(simp;done)|(simp;omega))).trans ((heap_alloc_old _ _ (by first|omega|(simp;done)|(simp;omega))).trans ((heap_alloc_old _ _ (by first|omega|(simp;done)|(simp;omega))).trans ((heap_alloc_old _ _ (by first|omega|(simp;done)|(simp;omega))).trans (az _ _ _ (by simp)))))
 ·exact (heap_alloc_old _ _ (by first|omega|(simp;done)|(simp;omega))).trans ((heap_alloc_old _ _ (by first|omega|(simp;done)|(simp;omega))).trans ((heap_alloc_old _ _ (by first|omega|(simp;done)|(simp;omega))).trans (az _ _ _ (by simp))))
 ·exact (heap_alloc_old _ _ (by first|omega|(simp;done)|(simp;omega))).trans ((heap_alloc_old _ _ (by first|omega|(simp;done)|(simp;omega))).trans (az _ _ _ (by simp)))
 ·exact (heap_alloc_old _ _ (by first|omega|(simp;done)|(simp;omega))).trans (az _ _ _ (by simp))
end Go.Proofs.YtlkgjmnjhifehaaGreat
