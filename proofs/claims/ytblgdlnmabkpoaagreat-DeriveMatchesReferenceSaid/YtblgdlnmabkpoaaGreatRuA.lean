/- Package rule: the kinds of rules. -/
import Derived.Test.YtblgdlnmabkpoaaGreatPgX
import Derived.Deep.RegionHeld3
set_option linter.unusedSimpArgs false
set_option linter.unusedVariables false
set_option maxHeartbeats 4000000
set_option maxRecDepth 100000
namespace Go.Proofs.YtblgdlnmabkpoaaGreat
open Go.RowKit Go.Sort
attribute [local go_sem] Steady steadyUpon
attribute [local go_sem ↓] hs_dr lt_add_r lt_add_r2 lt_add_r3 lt_add_r4 lt_add_r5 lt_add_r6
attribute [local go_sem] cell?_gd frozen?_gd setCell_gd size_grow tape_grow cell?_grow' frozen?_grow' setCell_grow' grow_grow grow_dr grow_drew dr_dr dr_drew drew_dr dr_alloc dr_setCell dr_cell dr_frozen dr_tape dr_drawn
attribute [local irreducible] wpSteady
def encN (n:Int):List Value:=[.int .i64 n]
theorem intAt {w:World}{B:Nat}{A:Option Addr}{ks:List Int}{k:Nat}{x:Int}(h:Rd w B 1 A (ks.map encN))(hk:ks[k]?=some x):∃b off,Hid (A=some ⟨b,off,none⟩)∧b<B∧w.cell? ⟨b,off+k,none⟩=some (.int .i64 x):=by
 obtain⟨b,off,hA,hb,hc⟩:=h.at_ (k:=k) (x:=encN x) (by simp[hk])
 have:=hc 0 _ rfl
 rw[Nat.mul_one] at this
 exact⟨b,off,hA,hb,this⟩
def IdxN (x:Int)(ks:List Int)(e:Ending):Prop:=(e=.returned (.int .i64 (-1))∧ks.contains x=false)∨(∃k:Nat,e=.returned (.int .i64 k)∧ks.contains x=true)
theorem idxInts_v (ks:List Int)(A:Option Addr)(c:Nat)(x:Int)(w:World)(hr:Rd w w.heap.size 1 A (ks.map encN))(hc:ks.length≤100000000000000) :
  Calls Tryz.prog 175 #[.slice A ks.length c,.int .i64 x] w fun e w'=>IdxN x ks e∧Grew w w':=by
 have hm:=hmix
 have HR:=hide hr
 clear hr
 go_enter Tryz.func175,Tryz.ntmps175
 go_wp2_with fail
 go_loopw [8] (fun i wr=>∃k:Nat,k≤ks.length∧i=.int .i64 k∧Grew w wr∧AppG ((ks.take k).contains x=false)) (fun i _=>ks.length-(intOf i).toNat)
 case atStart=>exact⟨0,by omega,rfl,gw,show (ks.take 0).contains x=false from by simp⟩
 case round =>
  obtain⟨k,hk,rfl,hg,hall⟩:=hrel
  have HG:=hide hg
  have HA:=hide hall.stop
  clear hg hall
  by_cases hlt:k<ks.length
  ·obtain⟨y,hy⟩:∃y,ks[k]?=some y:=⟨_,List.getElem?_eq_getElem hlt⟩
   obtain⟨b,off,hA,hb,h0⟩:=intAt (HR.out.up HG.out) hy
   have hix:=idx_run (cap:=c) Tryz.underlying36 Tryz.sizeOf3 hA.out hlt
   rw[Nat.mul_one] at hix
   have hs:(ks.take (k+1)).contains x=(x==y):=by
    rw[List.take_add_one,hy]
    have:=HA.out
    simp only[List.contains_eq_mem,List.mem_append,decide_eq_false_iff_not] at this ⊢
    rw[Bool.eq_iff_iff]
    simp[this]
   have HS:=hide hs
   have HY:=hide hy
   clear hs hy hA
   by_cases hxy:x=y
   ·subst hxy
    go_wp2_with fail
    go_ret
    refine⟨.inr ⟨k,rfl,?_⟩,HG.out.trans gw⟩
    rw[List.contains_eq_mem,decide_eq_true_eq]
    exact List.mem_of_getElem? HY.out
   ·have hxy2:(x==y)=false:=by simpa using hxy
    go_wp2_with fail
    go_roundw
    case rel=>exact⟨k+1,by omega,by go_num,HG.out.trans gw,show (ks.take (k+1)).contains x=false from by rw[HS.out,hxy2]⟩
    case measure=>simp[intOf];omega
  ·obtain rfl:k=ks.length:=by omega
   rw[List.take_length] at HA
   go_wp2_with fail
   go_ret
   exact⟨.inl ⟨rfl,HA.out⟩,HG.out⟩
theorem conInts_v (ks:List Int)(A:Option Addr)(c:Nat)(x:Int)(r:Bool)(w:World)(hr:Rd w w.heap.size 1 A (ks.map encN))(hc:ks.length≤100000000000000)(h:ks.contains x=r) :
  Calls Tryz.prog 140 #[.slice A ks.length c,.int .i64 x] w (Ret w (.bool r)):=by
 have hm:=hmix
 have k1:=hide (fun W (hg:Grew w W)=>idxInts_v ks A c x W (hr.up hg) hc)
 have HH:=hide h
 clear h hr
 go_enter Tryz.func140,Tryz.ntmps140
 go_wp2_with fail
 refine (k1.out _ gw).mono ?_
 rintro e w' ⟨h,⟨⟨n1,os1⟩,rfl⟩⟩
 rcases h with⟨rfl,hr2⟩|⟨k,rfl,hr2⟩
 ·obtain rfl:r=false:=by rw[←HH.out,hr2]
  dsimp only
  go_wp2_with fail
  go_ret
  exact Ret.mk' rfl gw
 ·obtain rfl:r=true:=by rw[←HH.out,hr2]
  have hk0:0≤(k:Int):=by omega
  dsimp only
  go_wp2_with fail
  go_ret
  exact Ret.mk' (by simp) gw
theorem can_v (s:Value)(ks:List Int)(A:Option Addr)(c:Nat)(l m:Int)(f:Value)(x:Int)(r:Bool)(w:World)(hr:Rd w w.heap.size 1 A (ks.map encN))(hc:ks.length≤100000000000000)(h:ks.contains x=r) :
  Calls Tryz.prog 90 #[.agg #[s,.slice A ks.length c,.int .i64 l,.int .i64 m,f],.int .i64 x] w (Ret w (.bool r)):=by
 have hm:=hmix
 have k1:=hide (fun W (hg:Grew w W)=>conInts_v ks A c x r W (hr.up hg) hc h)
 clear h hr
 go_enter Tryz.func90,Tryz.ntmps90
 go_wp2_with (go_at_call 140;with_reducible refine crv (k1.out _ gw) fun _ _=>?_;dsimp only)
 go_ret
 exact Ret.mk' rfl gw
theorem fhas_v (s:Value)(A:Option Addr)(n c:Nat)(l m:Int)(f:Value)(x:Int)(r:Bool)(w:World)(h:decide (l≤x∧x≤m)=r) :
  Calls Tryz.prog 91 #[.agg #[s,.slice A n c,.int .i64 l,.int .i64 m,f],.int .i64 x] w (Ret w (.bool r)):=by
 have hm:=hmix
 subst h
 by_cases h1:l≤x
 ·go_enter Tryz.func91,Tryz.ntmps91
  go_wp2_with fail
  go_ret
  exact Ret.mk' (ret_bool (by simp[h1])) gw
 ·have h2:decide (l≤x)=false:=decide_eq_false h1
  go_enter Tryz.func91,Tryz.ntmps91
  go_wp2_with fail
  go_ret
  exact Ret.mk' (ret_bool (by simp[h1])) gw
/-- The kinds of rules, by their index. -/
def opKinds (o:Int):List Int:=if o=1 then [0] else if o=2 then [1,2,3,5] else if o=3 then [1,2,5] else if o=4 then [1,2,5] else if o=5 then [3,6] else []
def opLeast (o:Int):Int:=if o=1 then 1 else if o=2 then 1 else 0
def opMost (o:Int):Int:=if o=1 then 100000 else if o=2 then 1000 else if o=3 then 100000 else if o=4 then 100000 else 0
/-- What forms hands back. -/
structure FormsAt (w':World) (g b1 b2 b3 b4 b5:Nat):Prop where
 row:w'.heap[g]?=some (.cells #[.string ⟨#[]⟩,.slice none 0 0,.int .i64 0,.int .i64 0,.nilFunc,
  .string ⟨#[99,97,112]⟩,.slice (some ⟨b1,0,none⟩) 1 1,.int .i64 1,.int .i64 100000,.nilFunc,
  .string ⟨#[114,111,117,110,100]⟩,.slice (some ⟨b2,0,none⟩) 4 4,.int .i64 1,.int .i64 1000,.func (.func 105) #[] #[],
  .string ⟨#[116,104,105,110]⟩,.slice (some ⟨b3,0,none⟩) 3 3,.int .i64 0,.int .i64 100000,.nilFunc,
  .string ⟨#[103,114,111,119]⟩,.slice (some ⟨b4,0,none⟩) 3 3,.int .i64 0,.int .i64 100000,.func (.func 106) #[] #[],
  .string ⟨#[98,111,120]⟩,.slice (some ⟨b5,0,none⟩) 2 2,.int .i64 0,.int .i64 0,.func (.func 107) #[] #[]] 102 (0,0))
 k1:w'.heap[b1]?=some (.cells #[.int .i64 0] 3 (0,0))
 k2:w'.heap[b2]?=some (.cells #[.int .i64 1,.int .i64 2,.int .i64 3,.int .i64 5] 3 (0,0))
 k3:w'.heap[b3]?=some (.cells #[.int .i64 1,.int .i64 2,.int .i64 5] 3 (0,0))
 k4:w'.heap[b4]?=some (.cells #[.int .i64 1,.int .i64 2,.int .i64 5] 3 (0,0))
 k5:w'.heap[b5]?=some (.cells #[.int .i64 3,.int .i64 6] 3 (0,0))
theorem FormsAt.up {w w':World}{g b1 b2 b3 b4 b5:Nat}(h:FormsAt w g b1 b2 b3 b4 b5)(hg:Grew w w'):FormsAt w' g b1 b2 b3 b4 b5 :=
 ⟨(hg.heap (blk_lt h.row)).trans h.row,(hg.heap (blk_lt h.k1)).trans h.k1,(hg.heap (blk_lt h.k2)).trans h.k2,(hg.heap (blk_lt h.k3)).trans h.k3,(hg.heap (blk_lt h.k4)).trans h.k4,(hg.heap (blk_lt h.k5)).trans h.k5⟩
def FormsP (w:World)(e:Ending)(w':World):Prop:=∃g b1 b2 b3 b4 b5,e=.returned (.slice (some ⟨g,0,none⟩) 6 6)∧FormsAt w' g b1 b2 b3 b4 b5∧Grew w w'
theorem forms_v (w:World):Calls Tryz.prog 71 #[] w (FormsP w):=by
 have hm:=hmix
 go_enter Tryz.func71,Tryz.ntmps71
 go_wp2_with fail
 go_ret
 refine⟨w.heap.size+1+1+1+1+1,w.heap.size,w.heap.size+1,w.heap.size+1+1,w.heap.size+1+1+1,w.heap.size+1+1+1+1,rfl,⟨?_,?_,?_,?_,?_,?_⟩,gw⟩
 ·exact heap_alloc_at _ _ _ (by simp)
 ·exact (heap_alloc_old _ _ (by first|omega|(simp;done)|(simp;omega))).trans ((heap_alloc_old _ _ (by first|omega|(simp;done)|(simp;omega))).trans ((heap_alloc_old _ _ (by first|omega|(simp;done)|(simp;omega))).trans ((heap_alloc_old _ _ (by first|omega|(simp;done)|(simp;omega))).trans ((heap_alloc_old _ _ (by first|omega|(simp;done)|(simp;omega))).trans (heap_alloc_at _ _ _ (by simp))))))
 ·exact (heap_alloc_old _ _ (by first|omega|(simp;done)|(simp;omega))).trans ((heap_alloc_old _ _ (by first|omega|(simp;done)|(simp;omega))).trans ((heap_alloc_old _ _ (by first|omega|(simp;done)|(simp;omega))).trans ((heap_alloc_old _ _ (by first|omega|(simp;done)|(simp;omega))).trans (heap_alloc_at _ _ _ (by simp)))))
 ·exact (heap_alloc_old _ _ (by first|omega|(simp;done)|(simp;omega))).trans ((heap_alloc_old _ _ (by first|omega|(simp;done)|(simp;omega))).trans ((heap_alloc_old _ _ (by first|omega|(simp;done)|(simp;omega))).trans (heap_alloc_at _ _ _ (by simp))))
 ·exact (heap_alloc_old _ _ (by first|omega|(simp;done)|(simp;omega))).trans ((heap_alloc_old _ _ (by first|omega|(simp;done)|(simp;omega))).trans (heap_alloc_at _ _ _ (by simp)))
 ·exact (heap_alloc_old _ _ (by first|omega|(simp;done)|(simp;omega))).trans (heap_alloc_at _ _ _ (by simp))
end Go.Proofs.YtblgdlnmabkpoaaGreat
