
import Derived.Test.YtlkgjmnjhifehaaGreatGrY
import Derived.Test.YtlkgjmnjhifehaaGreatCha
import Derived.Test.YtlkgjmnjhifehaaGreatRegV
import Derived.Conc.SmallLaws
import Derived.Sort.CutIn
import Derived.Sort.LoopGhostIn
import Derived.Test.YtlkgjmnjhifehaaGreatGrX
set_option linter.unusedSimpArgs false
set_option linter.unusedVariables false
namespace Go.Proofs.YtlkgjmnjhifehaaGreat
open Go.RowKit Go.Sort Go.Lib
abbrev QS:=List Int×List Nat
def visit (cs:List Int)(need:Int)(c:Nat)(s:QS)(d:Nat):QS:=if s.1.getD d 0<0/\need<=cs.getD d 0 then (s.1.set d (s.1.getD c 0+1),s.2++[d]) else s
def J9 (gw gh:Nat)(cs:List Int)(need:Int):QS->QS
 | (o,[])=>(o,[])
 | (o,c::q)=>(jm gw gh c).foldl (visit cs need c) (o,q)
def oW (gw gh:Nat)(cs:List Int)(need:Int):Nat->QS->QS
 | 0,s=>s
 | k+1,s=>J9 gw gh cs need (oW gw gh cs need k s)
def kz (n to:Nat):QS:=((List.replicate n (-1)).set to 0,[to])
def yx (o:List Int):Nat:=o.countP fun x=>decide (x<0)
structure qJ (n:Nat) (s:QS):Prop where
 len:s.1.length=n
 room:yx s.1+s.2.length<=n
 bd:∀x∈s.1,-1<=x/\x<=(n:Int)-yx s.1
 mem:∀c∈s.2,c<n
 vis:∀c∈s.2,0<=s.1.getD c 0
theorem getD_mem {l:List Int}{d:Nat}(h:d<l.length):l.getD d 0∈l:=by
 rw[List.getD_eq_getElem?_getD,List.getElem?_eq_getElem h]
 exact List.getElem_mem h
theorem Ky {l:List Int}{d:Nat}(h:d<l.length)(hn:l.getD d 0<0){v:Int}(hv:0<=v):yx (l.set d v)+1=yx l:=by
 have h1:l.getD d 0=l[d]:=by rw[List.getD_eq_getElem?_getD,List.getElem?_eq_getElem h];rfl
 rw[h1] at hn
 have h2:0<yx l:=List.countP_pos_iff.2 ⟨l[d],List.getElem_mem h,by simpa using hn⟩
 unfold yx at h2 ⊢
 rw[List.countP_set h]
 have e1:(decide (l[d]<0))=true:=by simpa using hn
 have e2:(decide (v<0))=false:=by simp;omega
 rw[if_pos e1,if_neg (by rw[e2];simp)]
 omega
theorem qJ.visit {n:Nat}{s:QS}(h:qJ n s){cs:List Int}{need:Int}{c d:Nat}(hc:c<n)(hd:d<n)(h0:0<=s.1.getD c 0) :
  qJ n (visit cs need c s d)/\0<=(visit cs need c s d).1.getD c 0/\yx (visit cs need c s d).1+(visit cs need c s d).2.length=yx s.1+s.2.length:=by
 unfold Go.Proofs.YtlkgjmnjhifehaaGreat.visit
 by_cases hv:s.1.getD d 0<0/\need<=cs.getD d 0
 ·rw[if_pos hv]
  have hl:d<s.1.length:=by rw[h.len];exact hd
  have hb:=h.bd _ (getD_mem (show c<s.1.length by rw[h.len];exact hc))
  have hs:=Ky hl hv.1 (v:=s.1.getD c 0+1) (by omega)
  have hset:∀e,0<=s.1.getD e 0->0<=(s.1.set d (s.1.getD c 0+1)).getD e 0:=by
   intro e he
   by_cases e1:d=e
   ·subst e1
    rw[List.getD_eq_getElem?_getD,List.getElem?_set_self hl]
    simp only[Option.getD_some]
    omega
   ·rw[List.getD_eq_getElem?_getD,List.getElem?_set_ne e1,<-List.getD_eq_getElem?_getD]
    exact he
  refine⟨⟨by simp[h.len],?_,?_,?_,?_⟩,hset c h0,?_⟩
  ·have:=h.room
   rw[List.length_append,List.length_singleton]
   dsimp only
   omega
  ·intro x hx
   dsimp only at hx ⊢
   rcases List.mem_or_eq_of_mem_set hx with hx|rfl
   ·have:=h.bd x hx
    omega
   ·omega
  ·intro e he
   dsimp only at he
   rcases List.mem_append.1 he with he|he
   ·exact h.mem e he
   ·rw[List.mem_singleton] at he
    omega
  ·intro e he
   dsimp only at he ⊢
   rcases List.mem_append.1 he with he|he
   ·exact hset e (h.vis e he)
   ·rw[List.mem_singleton] at he
    subst he
    rw[List.getD_eq_getElem?_getD,List.getElem?_set_self hl]
    simp only[Option.getD_some]
    omega
  ·dsimp only
   rw[List.length_append,List.length_singleton]
   omega
 ·rw[if_neg hv]
  exact⟨h,h0,rfl⟩
theorem qJ.fold {n:Nat}{cs:List Int}{need:Int}{c:Nat}(hc:c<n):∀ (l:List Nat) {s:QS},qJ n s->0<=s.1.getD c 0->(∀d∈l,d<n) ->
  qJ n (l.foldl (Go.Proofs.YtlkgjmnjhifehaaGreat.visit cs need c) s)/\0<=(l.foldl (Go.Proofs.YtlkgjmnjhifehaaGreat.visit cs need c) s).1.getD c 0/\yx (l.foldl (Go.Proofs.YtlkgjmnjhifehaaGreat.visit cs need c) s).1+(l.foldl (Go.Proofs.YtlkgjmnjhifehaaGreat.visit cs need c) s).2.length=yx s.1+s.2.length
 | [],s,h,h0,_=>⟨h,h0,rfl⟩
 | d::l,s,h,h0,hl=>by
  obtain⟨h1,h2,h3⟩:=h.visit (cs:=cs) (need:=need) hc (hl d List.mem_cons_self) h0
  obtain⟨g1,g2,g3⟩:=qJ.fold hc l h1 h2 fun e he=>hl e (List.mem_cons_of_mem _ he)
  exact⟨g1,g2,g3.trans h3⟩
theorem Di {gw gh c:Nat}(hc:c<gw*gh)(hw:1<=gw):∀d∈jm gw gh c,d<gw*gh:=by
 intro d hd
 unfold jm at hd
 simp only[List.mem_append] at hd
 rcases hd with hd|hd|hd|hd
 all_goals
  split at hd
  all_goals try (simp at hd;done)
 ·simp at hd;omega
 ·simp at hd;omega
 ·rename_i h
  have:=Ed hc h hw
  simp at hd
  omega
 ·rename_i h
  have:=PU hc h
  simp at hd
  omega
theorem VD (n:Nat):yx (List.replicate n (-1))=n:=by
 unfold yx
 rw[List.countP_replicate]
 simp
theorem qJ.start {n to:Nat}(h:to<n):qJ n (kz n to):=by
 have hl:to<(List.replicate n (-1:Int)).length:=by rw[List.length_replicate];exact h
 have hg:(List.replicate n (-1:Int)).getD to 0=-1:=by rw[List.getD_eq_getElem?_getD,List.getElem?_eq_getElem hl,List.getElem_replicate];rfl
 have hs:=Ky hl (by rw[hg];omega) (v:=0) (by omega)
 rw[VD] at hs
 unfold kz
 refine⟨by simp,?_,?_,?_,?_⟩
 ·dsimp only
  rw[List.length_singleton]
  omega
 ·intro x hx
  dsimp only at hx ⊢
  rcases List.mem_or_eq_of_mem_set hx with hx|rfl
  ·rw[List.mem_replicate] at hx
   omega
  ·omega
 ·intro c hc
  rw[List.mem_singleton] at hc
  omega
 ·intro c hc
  rw[List.mem_singleton] at hc
  subst hc
  dsimp only
  rw[List.getD_eq_getElem?_getD,List.getElem?_set_self hl]
  simp
theorem qJ.pop {n c:Nat}{o:List Int}{q:List Nat}(h:qJ n (o,c::q)):qJ n (o,q)/\c<n/\0<=o.getD c 0 :=
 ⟨⟨h.len,by have:=h.room;simp at this;dsimp only;omega,h.bd,fun e he=>h.mem e (List.mem_cons_of_mem _ he),fun e he=>h.vis e (List.mem_cons_of_mem _ he)⟩,h.mem c List.mem_cons_self,h.vis c List.mem_cons_self⟩
def PH (s:QS):Nat:=yx s.1+s.2.length
theorem VE {gw gh c d:Nat}(hw:1<=gw)(hc:c<gw*gh)(h:d∈jm gw gh c):c∈jm gw gh d:=by
 have hbd:=II hc hw
 unfold jm at h ⊢
 simp only[List.mem_append] at h ⊢
 rcases h with h|h|h|h
 all_goals split at h
 all_goals try (simp at h;done)
 ·rename_i hq
  rw[List.mem_singleton] at h
  have h1:=PW hq
  have e:c=d+gw:=by omega
  have e2:c / gw=d / gw+1:=by rw[e,Nat.add_div_right d (by omega)]
  exact .inr (.inr (.inr (by rw[if_pos (by omega),List.mem_singleton];exact e)))
 ·rename_i hq
  rw[List.mem_singleton] at h
  have h1:=PV hq
  have e:d=gw*(c / gw)+(c%gw-1):=by omega
  have e2:d%gw=c%gw-1:=by rw[e,Nat.mul_add_mod,Nat.mod_eq_of_lt (by omega)]
  exact .inr (.inr (.inl (by rw[if_neg (by omega),List.mem_singleton];omega)))
 ·rename_i hq
  rw[List.mem_singleton] at h
  have e:d=gw*(c / gw)+(c%gw+1):=by omega
  have e2:d%gw=c%gw+1:=by rw[e,Nat.mul_add_mod,Nat.mod_eq_of_lt (by omega)]
  exact .inr (.inl (by rw[if_neg (by omega),List.mem_singleton];omega))
 ·rename_i hq
  rw[List.mem_singleton] at h
  have e2:d / gw=c / gw+1:=by rw[h,Nat.add_div_right c (by omega)]
  rw[e2]
  exact .inl (by rw[if_neg (Nat.succ_ne_zero _),List.mem_singleton,h,Nat.add_sub_cancel])
theorem xy {l:List Int}{d:Nat}(h:d<l.length)(v:Int):(l.set d v).getD d 0=v:=by
 rw[List.getD_eq_getElem?_getD,List.getElem?_set_self h]
 rfl
theorem uD {l:List Int}{d e:Nat}(h:d≠e)(v:Int):(l.set d v).getD e 0=l.getD e 0:=by
 rw[List.getD_eq_getElem?_getD,List.getElem?_set_ne h,<-List.getD_eq_getElem?_getD]
structure wS (gw gh to:Nat) (cs:List Int) (need:Int) (o:List Int):Prop where
 len:o.length=gw*gh
 at0:o.getD to 0=0
 zero:∀d,d<gw*gh->o.getD d 0=0->d=to
 par:∀d,d<gw*gh->0<o.getD d 0->∃c,c∈jm gw gh d/\o.getD c 0=o.getD d 0-1
 deep:∀d,d<gw*gh->0<=o.getD d 0->d=to\/need<=cs.getD d 0
theorem wS.visit {gw gh to c d:Nat}{cs:List Int}{need:Int}{s:QS}(h:wS gw gh to cs need s.1)(hw:1<=gw)(hc:c<gw*gh)(h0:0<=s.1.getD c 0)(hd:d∈jm gw gh c):wS gw gh to cs need (visit cs need c s d).1:=by
 unfold Go.Proofs.YtlkgjmnjhifehaaGreat.visit
 by_cases hv:s.1.getD d 0<0/\need<=cs.getD d 0
 ·rw[if_pos hv]
  have hdn:=Di hc hw d hd
  have hl:d<s.1.length:=by rw[h.len];exact hdn
  have hdc:d≠c:=fun e=>by rw[e] at hv;omega
  have hdt:d≠to:=fun e=>by rw[e,h.at0] at hv;omega
  dsimp only
  refine⟨by rw[List.length_set];exact h.len,by rw[uD hdt];exact h.at0,fun e he=>?_,fun e he=>?_,fun e he=>?_⟩
  all_goals
   by_cases e1:d=e
  ·subst e1
   rw[xy hl]
   omega
  ·rw[uD e1]
   exact h.zero e he
  ·subst e1
   rw[xy hl]
   intro _
   exact⟨c,VE hw hc hd,by rw[uD hdc];omega⟩
  ·rw[uD e1]
   intro h1
   obtain⟨p,hp,hp2⟩:=h.par e he h1
   exact⟨p,hp,by rw[uD (fun e2=>by rw[<-e2] at hp2;omega)];exact hp2⟩
  ·subst e1
   intro _
   exact .inr hv.2
  ·rw[uD e1]
   exact h.deep e he
 ·rw[if_neg hv]
  exact h
theorem wS.fold {gw gh to c n:Nat}{cs:List Int}{need:Int}(hw:1<=gw)(hn:n=gw*gh)(hc:c<n):∀ (l:List Nat) {s:QS},qJ n s->wS gw gh to cs need s.1->0<=s.1.getD c 0->(∀d∈l,d∈jm gw gh c)->wS gw gh to cs need (l.foldl (Go.Proofs.YtlkgjmnjhifehaaGreat.visit cs need c) s).1
 | [],s,_,h,_,_=>h
 | d::l,s,hq,h,h0,hl=>by
  have hd:=hl d List.mem_cons_self
  obtain⟨h1,h2,_⟩:=hq.visit (cs:=cs) (need:=need) hc (by rw[hn];exact Di (hn ▸ hc) hw d hd) h0
  exact wS.fold hw hn hc l h1 (h.visit hw (hn ▸ hc) h0 hd) h2 fun e he=>hl e (List.mem_cons_of_mem _ he)
theorem wS.start {gw gh to:Nat}{cs:List Int}{need:Int}(ht:to<gw*gh):wS gw gh to cs need (kz (gw*gh) to).1:=by
 have hl:to<(List.replicate (gw*gh) (-1:Int)).length:=by rw[List.length_replicate];exact ht
 have hr:∀e,e<gw*gh->(List.replicate (gw*gh) (-1:Int)).getD e 0=-1:=fun e he=>by
  rw[List.getD_eq_getElem?_getD,List.getElem?_eq_getElem (by rw[List.length_replicate];exact he),List.getElem_replicate]
  rfl
 have hv:∀e,e<gw*gh->e≠to->((List.replicate (gw*gh) (-1:Int)).set to 0).getD e 0=-1:=fun e he h=>by rw[uD (fun e2=>h e2.symm)];exact hr e he
 unfold kz
 dsimp only
 refine⟨by rw[List.length_set,List.length_replicate],xy hl 0,fun d hd h=>?_,fun d hd h=>?_,fun d hd h=>?_⟩
 all_goals
  by_cases e:d=to
 ·exact e
 ·rw[hv d hd e] at h;omega
 ·rw[e,xy hl] at h;omega
 ·rw[hv d hd e] at h;omega
 ·exact .inl e
 ·rw[hv d hd e] at h;omega
theorem zB {gw gh to:Nat}{cs:List Int}{need:Int}(hw:1<=gw)(ht:to<gw*gh):∀k,qJ (gw*gh) (oW gw gh cs need k (kz (gw*gh) to))/\wS gw gh to cs need (oW gw gh cs need k (kz (gw*gh) to)).1
 | 0=>⟨qJ.start ht,wS.start ht⟩
 | k+1=>by
  obtain⟨h1,h2⟩:=zB (cs:=cs) (need:=need) hw ht k
  show qJ _ (J9 gw gh cs need _)/\wS _ _ _ _ _ (J9 gw gh cs need _).1
  generalize oW gw gh cs need k (kz (gw*gh) to)=s at *
  obtain⟨o,q⟩:=s
  cases q with
  | nil=>exact⟨h1,h2⟩
  | cons c q =>
   obtain⟨g1,g2,g3⟩:=h1.pop
   exact⟨(qJ.fold (cs:=cs) (need:=need) g2 _ g1 g3 (Di g2 hw)).1,wS.fold hw rfl g2 _ g1 h2 g3 fun d hd=>hd⟩
def zg (o:List Int)(gw gh c:Nat):Nat:=((jm gw gh c).find? fun d=>o.getD d 0==o.getD c 0-1).getD c
theorem PS {gw gh to c:Nat}{cs:List Int}{need:Int}{o:List Int}(h:wS gw gh to cs need o)(hc:c<gw*gh)(h0:0<o.getD c 0)(hw:1<=gw) :
  (jm gw gh c).find? (fun d=>o.getD d 0==o.getD c 0-1)=some (zg o gw gh c)/\zg o gw gh c<gw*gh/\o.getD (zg o gw gh c) 0=o.getD c 0-1:=by
 obtain⟨p,hp,hp2⟩:=h.par c hc h0
 cases hf:(jm gw gh c).find? (fun d=>o.getD d 0==o.getD c 0-1) with
 | none =>
  have:=List.find?_eq_none.1 hf p hp
  simp at this
  exact absurd hp2 this
 | some d =>
  have e:zg o gw gh c=d:=by unfold zg;rw[hf];rfl
  rw[e]
  have h1:=List.mem_of_find?_eq_some hf
  have h2:=List.find?_some hf
  exact⟨rfl,Di hc hw d h1,by simpa using h2⟩
def curC (o:List Int)(gw gh from_:Nat):Nat->Nat
 | 0=>from_
 | k+1=>zg o gw gh (curC o gw gh from_ k)
theorem Oy {gw gh to f:Nat}{cs:List Int}{need:Int}{o:List Int}(h:wS gw gh to cs need o)(hw:1<=gw)(hf:f<gw*gh):∀k:Nat,(k:Int)<=o.getD f 0->curC o gw gh f k<gw*gh/\o.getD (curC o gw gh f k) 0=o.getD f 0-k
 | 0,_=>⟨hf,by simp[curC]⟩
 | k+1,hk=>by
  obtain⟨h1,h2⟩:=Oy h hw hf k (by omega)
  obtain⟨_,h3,h4⟩:=PS h h1 (by omega) hw
  exact⟨h3,by show o.getD (zg o gw gh _) 0=_;rw[h4,h2];omega⟩
def vH (o:List Int)(gw gh from_:Nat):List Nat:=(List.range ((o.getD from_ 0).toNat+1)).map (curC o gw gh from_)
set_option maxHeartbeats 16000000
set_option maxRecDepth 100000
attribute [local go_sem] dA steadyUpon
attribute [local go_sem ↓] bU bI aX aW aV aU aT
attribute [local go_sem] bH aK aJ size_grow tape_grow cell?_grow' aF aB grow_grow bW aY dR cO bY bK aN cZ aZ bZ bJ
attribute [local irreducible] wpSteady
attribute [local go_sem] Oper.semAt_some
theorem Bx.lft {W:World}{n:Nat}{a b:List Obj}(h:Bx W n (a++b)):Bx W n a:=fun i o ho=>h i o (by rw[List.getElem?_append_left (List.getElem?_eq_some_iff.1 ho).1];exact ho)
def nC (W:World)(base g n:Nat)(out:List Int):Prop:=out.length=n/\W.ownsRow base 3 1 (.slice (some ⟨g,0,none⟩) n n) n (out.map (Value.int .i64))
theorem nC.cell {W:World}{base g n:Nat}{out:List Int}(h:nC W base g n out){d:Nat}(hd:d<n):W.cell? ⟨g,d,none⟩=some (.int .i64 (out.getD d 0)):=by
 have h1:=h.2.cellAt d (by omega)
 rw[h1,List.getElem?_map,List.getD_eq_getElem?_getD,List.getElem?_eq_getElem (by rw[h.1];exact hd)]
 rfl
theorem nC.frz {W:World}{base g n:Nat}{out:List Int}(h:nC W base g n out)(d:Nat):W.frozen? ⟨g,d,none⟩=false:=h.2.frozenAt d
theorem nC.lt {W:World}{base g n:Nat}{out:List Int}(h:nC W base g n out):base<=g/\g<W.heap.size:=World.ownsRow.lt h.2 g rfl
theorem nC.set {W:World}{base g n:Nat}{out:List Int}(h:nC W base g n out)(d:Nat)(v:Int):nC (W.setCell ⟨g,d,none⟩ (.int .i64 v)) base g n (out.set d v):=by
 refine⟨by rw[List.length_set];exact h.1,?_⟩
 rw[List.map_set]
 exact (h.2.stored d (.int .i64 v)).1
theorem nC.grew {W W':World}{base g n:Nat}{out:List Int}(h:nC W base g n out)(hg:Grew W W'):nC W' base g n out:=⟨h.1,World.ownsRow.kept h.2 (hg.grownBy none) (Decidable.em _)⟩
theorem nC.kpm {W W':World}{base g n:Nat}{out:List Int}(h:nC W base g n out)(hk:gW (fun _ _=>False) W W'):nC W' base g n out:=by
 refine⟨h.1,h.2.1,?_⟩
 rcases h.2.2 with h0|⟨g',cap,cur,e,hb,hg,rest⟩
 ·exact .inl h0
 ·exact .inr ⟨g',cap,cur,e,hb,hk _ _ _ _ id hg,rest⟩
theorem nC.base {W:World}{base base' g n:Nat}{out:List Int}(h:nC W base g n out)(hb:base'<=base):nC W base' g n out:=⟨h.1,Gu h.2 hb⟩
theorem nC.rd {W:World}{base g n:Nat}{out:List Int}(h:nC W base g n out):Rd W W.heap.size 1 (some ⟨g,0,none⟩) (out.map encZ):=by
 refine .inr ⟨g,0,rfl,h.lt.2,fun k x hx j u hu=>?_⟩
 rw[List.getElem?_map] at hx
 obtain⟨s,hs,rfl⟩:=Option.map_eq_some_iff.1 hx
 have hk:=(List.getElem?_eq_some_iff.1 hs).1
 match j,hu with
 | 0,hu =>
  have e:(Value.int .i64 s)=u:=by simpa[encZ] using hu
  rw[<-e,show 0+k*1+0=k by omega,h.cell (by rw[<-h.1];exact hk),List.getD_eq_getElem?_getD,hs]
  rfl
 | j+1,hu=>simp[encZ] at hu
theorem Sj {g n d:Nat}(hd:d<n):∀w,(Instr.indexAt 39 (.slice (some ⟨g,0,none⟩) n n) (.int .i64 (d:Int))).run Tryz.prog w=.ok (.pointer (some ⟨g,d,none⟩)) w:=by
 intro w
 have:=aO (cap:=n) (off:=0) (b:=g) Tryz.underlying39 Tryz.sizeOf3 rfl hd w
 simpa using this
theorem QB {W:World}{n0 b i:Nat}{v:Value}{os:List Obj}(h:Bx W n0 os)(hb:n0+os.length<=b\/b<n0):Bx (W.setCell ⟨b,i,none⟩ v) n0 os:=fun j o ho=>(heap_setCell_other W ⟨b,i,none⟩ (n0+j) v (fun e=>by
 have:=(List.getElem?_eq_some_iff.1 ho).1
 dsimp only at e
 omega)).trans (h j o ho)
theorem lI.tail {F:Fence}{n:Nat}{P:Program}{ops:Array Oper}{Q:Exit->Act->World->Prop}{a:Act}{w:World}(m:Nat)(l:List Oper)(hl:l=ops.toList.drop m)(h:wpListIn F n P ops Q l a w):lI F n P ops Q (List.range' m l.length) a w:=by
 refine lI.of_wp ?_
 rw[wpOpsIn_eq_wpListIn l m (fun j=>by rw[hl,List.getElem?_drop,Array.getElem?_toList])]
 exact h
def mark (D:Nat):Deferred:={ target:=.collected D,args:=#[] }
def LF (Z S:Nat)(Ds:List Nat)(a:Act):Prop:=∃f:Nat->Value,a={ tmps:=#[f 0,f 1,f 2,.pointer (some ⟨Z,0,none⟩),.pointer (some ⟨Z+1,0,none⟩),f 5,.slice none 0 0,.pointer (some ⟨S,0,none⟩),.pointer (some ⟨S+1+1,0,none⟩),f 9,f 10,f 11,f 12,f 13,f 14,f 15,f 16,f 17,f 18,f 19,f 20,f 21,f 22,f 23,f 24,f 25,f 26,f 27,f 28,f 29,f 30,f 31,f 32,f 33,f 34,f 35,f 36,f 37,f 38,f 39,f 40,f 41,f 42,f 43,f 44,f 45,f 46,f 47,f 48,f 49,f 50,f 51,f 52,f 53,f 54,f 55,f 56,f 57,f 58],defers:=Ds.map mark }
theorem LF.of {Z S:Nat}{Ds:List Nat}{a:Act}(h:a={ tmps:=#[a.tmps.toList.getD 0 undef,a.tmps.toList.getD 1 undef,a.tmps.toList.getD 2 undef,.pointer (some ⟨Z,0,none⟩),.pointer (some ⟨Z+1,0,none⟩),a.tmps.toList.getD 5 undef,.slice none 0 0,.pointer (some ⟨S,0,none⟩),.pointer (some ⟨S+1+1,0,none⟩),a.tmps.toList.getD 9 undef,a.tmps.toList.getD 10 undef,a.tmps.toList.getD 11 undef,a.tmps.toList.getD 12 undef,a.tmps.toList.getD 13 undef,a.tmps.toList.getD 14 undef,a.tmps.toList.getD 15 undef,a.tmps.toList.getD 16 undef,a.tmps.toList.getD 17 undef,a.tmps.toList.getD 18 undef,a.tmps.toList.getD 19 undef,a.tmps.toList.getD 20 undef,a.tmps.toList.getD 21 undef,a.tmps.toList.getD 22 undef,a.tmps.toList.getD 23 undef,a.tmps.toList.getD 24 undef,a.tmps.toList.getD 25 undef,a.tmps.toList.getD 26 undef,a.tmps.toList.getD 27 undef,a.tmps.toList.getD 28 undef,a.tmps.toList.getD 29 undef,a.tmps.toList.getD 30 undef,a.tmps.toList.getD 31 undef,a.tmps.toList.getD 32 undef,a.tmps.toList.getD 33 undef,a.tmps.toList.getD 34 undef,a.tmps.toList.getD 35 undef,a.tmps.toList.getD 36 undef,a.tmps.toList.getD 37 undef,a.tmps.toList.getD 38 undef,a.tmps.toList.getD 39 undef,a.tmps.toList.getD 40 undef,a.tmps.toList.getD 41 undef,a.tmps.toList.getD 42 undef,a.tmps.toList.getD 43 undef,a.tmps.toList.getD 44 undef,a.tmps.toList.getD 45 undef,a.tmps.toList.getD 46 undef,a.tmps.toList.getD 47 undef,a.tmps.toList.getD 48 undef,a.tmps.toList.getD 49 undef,a.tmps.toList.getD 50 undef,a.tmps.toList.getD 51 undef,a.tmps.toList.getD 52 undef,a.tmps.toList.getD 53 undef,a.tmps.toList.getD 54 undef,a.tmps.toList.getD 55 undef,a.tmps.toList.getD 56 undef,a.tmps.toList.getD 57 undef,a.tmps.toList.getD 58 undef],defers:=Ds.map mark }):LF Z S Ds a:=⟨fun i=>a.tmps.toList.getD i undef,h⟩
structure Jz (w:World) (bx:List Obj) (S g n:Nat) (s:QS) (W:World):Prop where
 below:Below w.heap.size w W
 bx:Bx W w.heap.size bx
 sb:W.heap[S]?=some (.cells #[.slice (some ⟨g,0,none⟩) n n] 39 (0,0))
 cb:W.heap[S+1+1]?=some (.cells #[.chan (some (S+1))] 142 (0,0))
 ch:∃a b,W.heap[S+1]?=some (.chan n (s.2.map fun c:Nat=>Value.int .i64 (c:Int)).toArray false a b false)
 row:nC W (w.heap.size+3) g n s.1
theorem Jz.own {β:Type}{B:Nat}{w:World}{bx:List Obj}{S g n:Nat}(st:β->QS)(h1:S+3<=B)(h2:g<B)(h3:w.heap.size+bx.length<=B):OwnFrom B (fun (s:β) W=>Jz w bx S g n (st s) W):=by
 intro s X Y row h hg hr
 refine⟨ownFrom_below (β:=Unit) (Nat.le_refl _) (by omega) () X Y row h.below hg hr,Bx.own (β:=Unit) h3 () X Y row h.bx hg hr,nz (β:=Unit) (by omega) () X Y row h.sb hg hr,nz (β:=Unit) (by omega) () X Y row h.cb hg hr,?_,?_⟩
 ·obtain⟨a,b,hc⟩:=h.ch
  exact⟨a,b,nz (β:=Unit) (by omega) () X Y row hc hg hr⟩
 ·exact⟨h.row.1,World.ownsRow.kept h.row.2 hg (.inr fun e=>by have:=(hr g e.symm).1;omega)⟩
theorem Jz.grew {w W W':World}{bx:List Obj}{S g n:Nat}{s:QS}(h:Jz w bx S g n s W)(hg:Grew W W'):Jz w bx S g n s W' :=
 ⟨h.below.trans (hg.below.mono h.below.size),h.bx.grew hg,(hg.heap (au h.sb)).trans h.sb,(hg.heap (au h.cb)).trans h.cb,let ⟨a,b,hc⟩:=h.ch;⟨a,b,(hg.heap (au hc)).trans hc⟩,h.row.grew hg⟩
theorem Jz.abE {w W:World}{bx:List Obj}{S g n:Nat}{s:QS}(h:Jz w bx S g n s W)(hb:bx.length<=3)(hgS:g<S)(d:Nat)(v:Int):Jz w bx S g n (s.1.set d v,s.2) (W.setCell ⟨g,d,none⟩ (.int .i64 v)):=by
 have hl:=h.row.lt
 have ho:∀k,k≠g->(W.setCell ⟨g,d,none⟩ (.int .i64 v)).heap[k]?=W.heap[k]?:=fun k hk=>heap_setCell_other W ⟨g,d,none⟩ k _ hk
 refine⟨gz (jf (iC W (some g)) d (.int .i64 v)) h.below (by omega),QB h.bx (by omega),(ho _ (by omega)).trans h.sb,(ho _ (by omega)).trans h.cb,?_,h.row.set d v⟩
 obtain⟨a,b,hc⟩:=h.ch
 exact⟨a,b,(ho _ (by omega)).trans hc⟩
theorem setChan_at (W:World)(c cap:Nat)(buf:Array Value)(cl:Bool)(s r:Nat)(tm:Bool)(h:c<W.heap.size):(W.setChan c cap buf cl s r tm).heap[c]?=some (.chan cap buf cl s r tm):=by
 simp[World.setChan,h]
theorem Jz.chan {w W:World}{bx:List Obj}{S g n:Nat}{s:QS}(h:Jz w bx S g n s W)(hwS:w.heap.size+bx.length<=S)(hgS:g<S)(q:List Nat)(buf:Array Value)(hq:buf=(q.map fun c:Nat=>Value.int .i64 (c:Int)).toArray)(a b:Nat):Jz w bx S g n (s.1,q) (W.setChan (S+1) n buf false a b false):=by
 have ho:∀k,k≠S+1->(W.setChan (S+1) n buf false a b false).heap[k]?=W.heap[k]?:=fun k hk=>heap_setChan_ne W _ _ _ _ _ _ _ k hk
 have hlt:S+1<W.heap.size:=by obtain⟨a',b',hc⟩:=h.ch;exact au hc
 have hsz:(W.setChan (S+1) n buf false a b false).heap.size=W.heap.size:=by simp[World.setChan]
 have hgb:W.grownBy (W.setChan (S+1) n buf false a b false) (some (S+1)):=⟨rfl,rfl,rfl,by rw[hsz];exact Nat.le_refl _,fun k _ hk=>ho k (fun e=>hk (by rw[e]))⟩
 refine⟨gz hgb h.below (by omega),fun i o hi=>?_,(ho _ (by omega)).trans h.sb,(ho _ (by omega)).trans h.cb,⟨a,b,by rw[<-hq];exact setChan_at _ _ _ _ _ _ _ _ hlt⟩,h.row.1,World.ownsRow.kept h.row.2 hgb (.inr fun e=>by have e2:g=S+1:=(by simpa[Value.ownBlock] using e);omega)⟩
 have:=(List.getElem?_eq_some_iff.1 hi).1
 exact (ho _ (by omega)).trans (h.bx i o hi)
structure Marks (Z:Nat) (Ds:List Nat) (W:World):Prop where
 nd:Ds.Nodup
 op:∀D∈Ds,Z<=D/\W.heap[D]?=some (.deferred (some []))
theorem Marks.own {β:Type}{B Z:Nat}{Ds:List Nat}(h:∀D∈Ds,D<B):OwnFrom B (fun (_:β) W=>Marks Z Ds W):=by
 intro s X Y row hs hg hr
 exact⟨hs.nd,fun D hD=>⟨(hs.op D hD).1,nz (β:=Unit) (h D hD) () X Y row (hs.op D hD).2 hg hr⟩⟩
theorem Marks.grew {Z:Nat}{Ds:List Nat}{W W':World}(h:Marks Z Ds W)(hg:Grew W W'):Marks Z Ds W':=⟨h.nd,fun D hD=>⟨(h.op D hD).1,(hg.heap (au (h.op D hD).2)).trans (h.op D hD).2⟩⟩
theorem nC.ex {W:World}{base g n:Nat}{out:List Int}(h:nC W base g n out):∃cs,W.heap[g]?=some (.cells cs 3 (0,0)):=by
 rcases h.2.2 with⟨e,_⟩|⟨g',cap,cur,e,hb,hg,rest⟩
 ·cases e
 ·injection e with e _ _
  injection e with e
  injection e with e _ _
  subst e
  exact⟨cur,hg⟩
theorem Marks.abE {Z:Nat}{Ds:List Nat}{W:World}{base g n:Nat}{out:List Int}(h:Marks Z Ds W)(hr:nC W base g n out)(d:Nat)(v:Value):Marks Z Ds (W.setCell ⟨g,d,none⟩ v):=⟨h.nd,fun D hD=>⟨(h.op D hD).1,by
 refine (heap_setCell_other W ⟨g,d,none⟩ D v (fun e=>?_)).trans (h.op D hD).2
 obtain⟨cs,hc⟩:=hr.ex
 have h1:=(h.op D hD).2
 rw[show D=g from e,hc] at h1
 cases h1⟩⟩
theorem Marks.chan {Z:Nat}{Ds:List Nat}{W:World}{C cap cap' s r s' r':Nat}{buf buf':Array Value}{cl tm cl' tm':Bool}(h:Marks Z Ds W)(hc:W.heap[C]?=some (.chan cap buf cl s r tm)):Marks Z Ds (W.setChan C cap' buf' cl' s' r' tm'):=⟨h.nd,fun D hD=>⟨(h.op D hD).1,by
 refine (heap_setChan_ne W _ _ _ _ _ _ _ D (fun e=>?_)).trans (h.op D hD).2
 have h1:=(h.op D hD).2
 rw[e,hc] at h1
 cases h1⟩⟩
theorem uq {F:Fence}{n:Nat}{P:Program}{fn:Func}{tmps:Array Value}{R:Ending->World->Prop}{w:World}:∀ (Ds:List Nat) (W:World),Marks w.heap.size Ds W->Below w.heap.size w W ->
  (∀W',gW (fun _ _=>False) W W'->Below w.heap.size w W'->LeavesInM F n P fn tmps R [] .returning W')->LeavesInM F n P fn tmps R (Ds.map mark) .returning W
 | [],W,_,hB,h=>h W (fun _ _ _ _ _ hb=>hb) hB
 | D::Ds,W,hm,hB,h=>by
  have hd:=hm.op D List.mem_cons_self
  have hnd:=List.nodup_cons.1 hm.nd
  have hk:gW (fun _ _=>False) W (W.putObj D (.deferred none)):=gW.bk (w:=w) W D _ _ hd.1 hd.2 rfl rfl
  have hB2:Below w.heap.size w (W.putObj D (.deferred none)):=hB.trans (belowK_b (w:=w) (Nat.le_refl _) _ D _ (.deferred none) hd.1 hd.2 rfl rfl)
  refine⟨by simp,.inl ⟨D,_,rfl,run_takeDeferred hd.2,?_⟩⟩
  refine uq Ds _ ⟨hnd.2,fun D' h'=>⟨(hm.op D' (List.mem_cons_of_mem _ h')).1,?_⟩⟩ hB2 fun W' h1 h2=>h W' (hk.trans h1) h2
  have hne:D'≠D:=fun e=>hnd.1 (by rw[<-e];exact h')
  exact (World.putObj_heap_other hne).trans (hm.op D' (List.mem_cons_of_mem _ h')).2
theorem aaf (cx cy sz:Int)(fV gK:Nat)(A:Option Addr)(c:Nat)(cs:List Int)(need:Int)(to:Nat)(w:World)(hr:Rd w w.heap.size 1 A (cs.map encZ))(hw:1<=fV/\fV<=64)(hh:1<=gK/\gK<=64)(hn:cs.length=fV*gK)(ht:to<fV*gK) :
  Calls Tryz.prog 42 #[Gr.val ⟨cx,cy,sz,fV,gK,A,c,cs⟩,.int .i64 need,.int .i64 to] w fun e w'=>∃ (k:Nat) (out:List Int) (g:Nat),e=.returned (.slice (some ⟨g,0,none⟩) out.length out.length)/\oW fV gK cs need k (kz (fV*gK) to)=(out,[])/\out.length=fV*gK/\nC w' w.heap.size g (fV*gK) out/\Grew w w':=by
 have hm:=aP
 obtain⟨n,hnn⟩:∃n,cs.length=n:=⟨_,rfl⟩
 have agq:1<=n/\n<=4096:=by
  have h1:fV*gK<=64*64:=Nat.mul_le_mul hw.2 hh.2
  have h2:1*1<=fV*gK:=Nat.mul_le_mul hw.1 hh.1
  omega
 have hmk:∀W:World,(Instr.makeChan 142 (.int .i64 (n:Int))).run Tryz.prog W=.ok (.chan (some W.heap.size)) (W.alloc (.chan n #[] false 0 0 false)):=by
  obtain⟨i0,hi,_,_,hz2⟩:=Uu
  exact fun W=>Go.Conc.run_makeChan (Tryz.underlying142) hi .i64 n (by omega) (by rw[hz2];omega)
 have HR:=hide hr
 have k3:=hide (fun W (d:Int)=>GY ⟨cx,cy,sz,fV,gK,A,c,cs⟩ d W)
 unfold Gr.val at k3
 dsimp only at k3
 simp only[hnn] at k3
 have HN:=hide hnn
 unfold Gr.val
 dsimp only
 rw[hnn]
 clear hr hnn
 refine (callsIn_wide (n:=13)).1 ?_
 refine callsIn_of_wp_marks Tryz.func42 rfl trivial ?_ rfl
 simp only[Tryz.ntmps42,List.size_toArray,List.length_cons,List.length_nil,Nat.reduceAdd,Nat.reduceSub,Array.replicate_succ,Array.replicate_zero,List.push_toArray,List.append_toArray,List.nil_append,List.cons_append]
 gi_wp2_with fail
 refine⟨trivial,?_⟩
 refine (callsIn_wide.2 (Va n _ _ (az _ _ _ (by simp)) (by omega) (by omega))).mono ?_
 rintro e w1 ⟨g,rfl,hown,hg1⟩
 have hb1:Bx w1 w.heap.size [.cells #[.int .i64 cx,.int .i64 cy,.int .i64 sz,.int .i64 (fV:Int),.int .i64 (gK:Int),.slice A n c] 41 (0,0),.cells #[.int .i64 need] 3 (0,0)]:=by refine Bx.lft (b:=[.cells #[.int .i64 (-1)] 3 (0,0)]) ?_;refine (Bx.lT _ w).1.grew ?_;simp only[List.foldl,List.cons_append,List.nil_append];exact hg1
 have hw1:Grew w w1:=Grew.trans gw hg1
 have hrow:nC w1 (w.heap.size+3) g n (List.replicate n (-1)):=⟨List.length_replicate,by rw[List.map_replicate];simpa using hown⟩
 have hto:to<n:=by rw[<-HN.out,hn];exact ht
 have c0:=hrow.cell hto
 have f0:=hrow.frz to
 have lg:=hrow.lt
 have hix:=Sj (g:=g) hto
 have hne0:¬ w.heap.size=g:=by omega
 have hne1:¬ g=w.heap.size:=by omega
 have q5:w1.cell? ⟨w.heap.size,5,none⟩=some (.slice A n c):=ag (hb1 0 _ rfl) 5
 have lq:w.heap.size<w1.heap.size:=au (hb1 0 _ rfl)
 have Ac:=hide hrow
 clear hown hg1 hrow
 dsimp only
 gi_upto_region 4 with fail
 refine dJ ?_
 intro a0 W2 ha hW
 obtain⟨bx,hbx⟩:∃bx:List Obj,bx=[.cells #[.int .i64 cx,.int .i64 cy,.int .i64 sz,.int .i64 (fV:Int),.int .i64 (gK:Int),.slice A n c] 41 (0,0),.cells #[.int .i64 need] 3 (0,0)]:=⟨_,rfl⟩
 rw[<-hbx] at hb1
 have hbl:bx.length=2:=by rw[hbx];rfl
 have hgx:Grew (w1.setCell ⟨g,to,none⟩ (.int .i64 0)) W2:=by rw[<-hW];exact gw
 have hrow2:nC W2 (w.heap.size+3) g n (kz n to).1:=(Ac.out.set to 0).grew hgx
 have hb2:Bx W2 w.heap.size bx:=(QB hb1 (by omega)).grew hgx
 have hB2:Below w.heap.size w W2:=gz (xA (jf (iC w1 (some g)) to (.int .i64 0)) hgx) hw1.below (by omega)
 have hs2:W2.heap[w1.heap.size]?=some (.cells #[.slice (some ⟨g,0,none⟩) n n] 39 (0,0)):=by
  rw[<-hW]
  exact (heap_alloc_old _ _ (by simp<;>omega)).trans ((heap_alloc_old _ _ (by simp)).trans (az _ _ _ (by simp)))
 have hc2:W2.heap[w1.heap.size+1]?=some (.chan n #[] false 0 0 false):=by
  rw[<-hW]
  exact (heap_alloc_old _ _ (by simp)).trans (az _ _ _ (by simp))
 have hd2:W2.heap[w1.heap.size+1+1]?=some (.cells #[.chan (some (w1.heap.size+1))] 142 (0,0)):=by
  rw[<-hW]
  exact az _ _ _ (by simp)
 have hgs:g<w1.heap.size:=lg.2
 have hgb:w.heap.size+3<=g:=lg.1
 obtain⟨S,hS⟩:∃S,w1.heap.size=S:=⟨_,rfl⟩
 rw[hS] at hs2 hc2 hd2 hgs ha
 clear hW hgx hb1 hw1 Ac c0 f0 lg hix hne0 hne1 q5 lq hS
 subst ha
 have x0:=ag hd2 0
 refine lI.region (show lI _ _ _ _ _ [0,1,2] _ _ from ?_)
 refine lI.value (v:=.chan (some (S+1))) (w':=W2) rfl (by simp[Region.wanted]) (by intro f h;simp[Oper.about] at h) (by simp[go_sem,Act.eval,x0]) ?_
 refine lI.value (v:=.int .i64 to) (w':=W2) rfl (by simp[Region.wanted]) (by intro f h;simp[Oper.about] at h) (by simp[go_sem,Act.eval]) ?_
 refine lI.send (v:=.int .i64 to) rfl (by simp[Region.wanted]) (by intro f h;simp[Oper.about] at h) (by simp[go_sem,Act.eval];rfl) hc2 (by simp;omega) ?_
 refine lI.of_wp ?_
 show Exit.then _ _ Exit.normal _ _
 dsimp only[Exit.then]
 go_simp
 gi_wp2_with fail
 have hst:Jz w bx S g n (kz n to) (W2.setChan (S+1) n #[Value.int .i64 to] false 1 0 false):=by
  have h0:Jz w bx S g n ((kz n to).1,[]) W2:=⟨hB2,hb2,hs2,hd2,⟨0,0,hc2⟩,hrow2⟩
  exact h0.chan (by omega) hgs [to] _ rfl 1 0
 refine wpIn_loop_ghost (fun m a W=>∃ (k:Nat) (s:QS) (Ds:List Nat),oW fV gK cs need k (kz n to)=s/\qJ n s/\PH s=m/\LF w.heap.size S Ds a/\Jz w bx S g n s W/\Marks w.heap.size Ds W) (PH (kz n to)) ⟨0,_,[],rfl,qJ.start hto,rfl,LF.of rfl,hst,⟨List.nodup_nil,fun _ h=>by cases h⟩⟩ ?_
 rintro m a W ⟨k,⟨o,q⟩,Ds,hk,hq,hm1,⟨f,rfl⟩,hw2,Ze⟩
 have mF:=hide hbx
 clear hbx
 cases q with
 | nil =>
  have hb:=hw2.below
  obtain⟨ca,cb,hch⟩:=hw2.ch
  have hlen:=Go.Conc.run_len_chan (P:=Tryz.prog) 142 3 (Tryz.underlying142) hch
  have x0:=ag hw2.cb 0
  have x1:=ag hw2.sb 0
  have l0:=au hw2.cb
  have l1:=au hw2.sb
  have HW2:=hide hw2
  have Uj:=hide Ze
  have HK:=hide hk
  have HQ:=hide hq
  simp only[List.map_nil,List.size_toArray,List.length_nil] at hlen
  clear hw2 Ze hk hq hch hb
  gi_wp2_with fail
  show LeavesInM _ _ _ _ _ _ (Ds.map mark) .returning W
  refine uq Ds W Uj.out HW2.out.below fun W' h1 h2=>?_
  refine⟨.slice (some ⟨g,0,none⟩) n n,by simp[results,Tryz.results42,go_sem],?_⟩
  have hne:n=fV*gK:=HN.out.symm.trans hn
  have hrw:=(HW2.out.row.kpm h1).base (base':=w.heap.size) (by omega)
  rw[<-hne]
  exact⟨k,o,g,by rw[hrw.1],HK.out,hrw.1,hrw,Grew.of_below h2⟩
 | cons cc q =>
  obtain⟨ca,cb,hch⟩:=hw2.ch
  have hlen:=Go.Conc.run_len_chan (P:=Tryz.prog) 142 3 (Tryz.underlying142) hch
  simp only[List.map_cons,List.size_toArray,List.length_cons,List.length_map] at hlen
  obtain⟨ln,hln,hlp⟩:∃ln:Nat,q.length+1=ln/\0<ln:=⟨_,rfl,by omega⟩
  rw[hln] at hlen
  have x0:=ag hw2.cb 0
  have l0:=au hw2.cb
  have hpop:=hq.pop
  have HW2:=hide hw2
  have Uj:=hide Ze
  have HK:=hide hk
  have HQ:=hide hpop
  have HCH:=hide hch
  have HLN:=hide hln
  clear hw2 Ze hk hq hch hpop hln
  gi_upto_region 6 with fail
  refine lI.region (show lI _ _ _ _ _ [0,1,2,3] _ _ from ?_)
  refine lI.value (v:=.chan (some (S+1))) (w':=W) rfl (by simp[Region.wanted]) (by intro f h;simp[Oper.about] at h) (by simp[go_sem,Act.eval,x0]) ?_
  refine lI.recv rfl (by simp[Region.wanted]) (by intro f h;simp[Oper.about] at h) (by simp[go_sem,Act.eval];rfl) HCH.out (by simp) ?_
  obtain⟨Wc,hWc⟩:∃Wc,W.setChan (S+1) n (((((cc::q).map fun c:Nat=>Value.int .i64 (c:Int)).toArray).extract 1 (((cc::q).map fun c:Nat=>Value.int .i64 (c:Int)).toArray).size)) false ca (cb+1) false=Wc:=⟨_,rfl⟩
  have hw3:Jz w bx S g n (o,q) Wc:=by rw[<-hWc];exact HW2.out.chan (by omega) hgs q _ (by simp;exact List.take_of_length_le (by simp)) ca (cb+1)
  have aeu:Marks w.heap.size Ds Wc:=⟨Uj.out.nd,fun D hD=>⟨(Uj.out.op D hD).1,by
   rw[<-hWc]
   refine (heap_setChan_ne W _ _ _ _ _ _ _ D (fun e=>?_)).trans (Uj.out.op D hD).2
   have h1:=(Uj.out.op D hD).2
   rw[e,HCH.out] at h1
   cases h1⟩⟩
  show lI _ _ _ _ _ [2,3] _ (W.setChan (S+1) n (((((cc::q).map fun c:Nat=>Value.int .i64 (c:Int)).toArray).extract 1 (((cc::q).map fun c:Nat=>Value.int .i64 (c:Int)).toArray).size)) false ca (cb+1) false)
  rw[hWc]
  clear hWc
  refine lI.tail 2 _ rfl ?_
  simp only[List.drop_succ_cons,List.drop_zero]
  have yA:Wc.heap[w.heap.size]?=_:=hw3.bx 0 _ (by rw[mF.out];rfl)
  have e0:=ag yA 0
  have e1:=ag yA 1
  have e2:=ag yA 2
  have e3:=ag yA 3
  have e4:=ag yA 4
  have e5:=ag yA 5
  have lw:=au yA
  have HW3:=hide hw3
  have ahw:=hide aeu
  clear hw3 aeu yA
  go_simp
  gi_wp2_with fail
  refine⟨trivial,?_⟩
  refine (callsIn_wide.2 (k3.out _ _)).mono ?_
  rintro e w4 ⟨rfl,hw4⟩
  dsimp only
  gi_wp2_with fail
  refine dJ ?_
  intro a0 W0 ha hW
  subst hW
  have hg4:Grew Wc w4:=by rw[<-hw4];exact gw
  have hbc:w4.heap[Wc.heap.size]?=some (.cells #[.int .i64 (cc:Int)] 3 (0,0)):=by rw[<-hw4];exact (heap_alloc_old _ _ (by simp<;>omega)).trans ((heap_alloc_old _ _ (by simp)).trans (heap_alloc_new _ _))
  have hbg:w4.heap[Wc.heap.size+1]?=some (.cells #[.int .i64 cx,.int .i64 cy,.int .i64 sz,.int .i64 (fV:Int),.int .i64 (gK:Int),.slice A n c] 41 (0,0)):=by rw[<-hw4];exact (heap_alloc_old _ _ (by simp)).trans (az _ _ _ (by simp))
  have hbi:w4.heap[Wc.heap.size+1+1]?=some (.cells #[.int .i64 (cc:Int)] 3 (0,0)):=by rw[<-hw4];exact az _ _ _ (by simp)
  have hsz:w4.heap.size=Wc.heap.size+3:=by rw[<-hw4];simp
  have qK:=hide hg4
  have hw5:=HW3.out.grew hg4
  have ha2:a0.eval (.tmp 32)=.func (.func 78) #[] #[.pointer (some ⟨Wc.heap.size+1+1,0,none⟩),.pointer (some ⟨Wc.heap.size+1,0,none⟩)]:=by rw[<-ha];simp[Act.eval]
  obtain⟨Z,hZ⟩:∃Z,Wc.heap.size=Z:=⟨_,rfl⟩
  have hSZ:S+3<=Z:=by rw[<-hZ];have:=au HW3.out.cb;omega
  rw[hZ] at ha ha2 hbc hbg hbi hsz
  have HW5:=hide hw5
  have CJ:=hide hbc
  clear hw4 hg4 hw5 hbc e0 e1 e2 e3 e4 e5 lw
  obtain⟨hqi,hcn,hc0⟩:=HQ.out
  have hne:n=fV*gK:=HN.out.symm.trans hn
  have hmk5:=ahw.out.grew qK.out
  obtain⟨st,FP⟩:∃st:List (Fin (fV*gK))->QS,st=fun pre=>(pre.map Fin.val).foldl (visit cs need cc) (o,q):=⟨_,rfl⟩
  have Sz:st []=(o,q):=by rw[FP];rfl
  have aef:∀pre x,st (pre++[x])=visit cs need cc (st pre) x.1:=fun pre x=>by rw[FP];simp only[List.map_append,List.foldl_append];rfl
  have aeh:∀pre,qJ n (st pre)/\0<=(st pre).1.getD cc 0/\yx (st pre).1+(st pre).2.length=yx o+q.length:=fun pre=>by
   rw[FP]
   exact qJ.fold hcn (pre.map Fin.val) hqi hc0 (fun d hd=>by obtain⟨y,_,rfl⟩:=List.mem_map.1 hd;rw[hne];exact y.2)
  have aeg:∀xs:List (Fin (fV*gK)),xs.map Fin.val=jm fV gK cc->st xs=J9 fV gK cs need (o,cc::q):=fun xs hx=>by rw[FP];dsimp only;rw[hx];rfl
  have HST:=hide FP
  have ahf:=hide aef
  have acX:=hide aeh
  have ahg:=hide aeg
  clear FP aef aeh aeg
  have agF:cc<fV*gK:=by rw[<-hne];exact hcn
  have HNE:=hide hne
  have XZ:Hid (Z+3<=w4.heap.size):=hide (by omega)
  clear hne
  refine wpIn_rangeFunc_ownH (n:=13) rfl (by omega) (gf:=78) (lb:=#[.pointer (some ⟨Z+1+1,0,none⟩),.pointer (some ⟨Z+1,0,none⟩)]) ha2 trivial (enters_of Tryz.func78 (by kernel_rfl) rfl)
   (BM 12 w.heap.size fV gK cc (Z+1+1) (Z+1) (fun b _=>b=g) cx cy sz (.slice A n c) w4 (fun b _ hb=>by omega) hbi hbg hw hh agF)
   (fun h k=>h.trans k) gW.bk (Below.refl _ _) (fun _=>rfl)
   (fun pre W=>(Jz w bx S g n (st pre) W/\W.heap[Z]?=some (.cells #[.int .i64 (cc:Int)] 3 (0,0)))/\Marks w.heap.size Ds W)
   (fun _ _ _=>False)
   (OwnFrom.and (OwnFrom.and (Jz.own (fun pre=>st pre) (by omega) (by omega) (by omega)) (nz (by omega))) (Marks.own (fun D hD=>au (hmk5.op D hD).2)))
   (fun q=>ownFrom_pure _)
   ⟨⟨by rw[Sz];exact HW5.out,CJ.out⟩,hmk5⟩
   (fun x a' _=>a'={ tmps:=(a0.tmps.setIfInBounds 33 (.int .i64 (x.1:Nat))).setIfInBounds 10 (.int .i64 (x.1:Nat)),defers:=[] })
   (fun x a'=>ownFrom_pure _)
   ?assign ?body ?done ?stop
  case assign =>
   rintro l pre x W K hI hK
   rw[show encI (fV*gK) x=#[.int .i64 (x.1:Nat)] from rfl,L9]
   subst ha
   simp only[List.setIfInBounds_toArray,List.set_cons_succ,List.set_cons_zero] at hK ⊢
   have wu:=hide hK
   have HI:=hide hI
   clear hK hI
   gi_wp2_with fail
   exact wu.out _ _ ((Grew.refl _).aS _) (gW.grew (Grew.refl _)) HI.out rfl
  case body =>
   rintro l pre x a' W hl2 _ ⟨⟨h1,h2⟩,h3⟩ rfl hlt
   subst ha
   obtain⟨i1,i2,i3⟩:=acX.out pre
   have hxn:x.1<n:=by rw[HNE.out];exact x.2
   obtain⟨d,hd⟩:∃d,x.1=d:=⟨_,rfl⟩
   rw[hd] at hxn
   have Sr:st (pre++[x])=visit cs need cc (st pre) d:=by rw[ahf.out,hd]
   simp only[hd]
   obtain⟨⟨o1,q1⟩,hs1⟩:∃s,st pre=s:=⟨_,rfl⟩
   rw[hs1] at h1 i1 i2 Sr
   have hrow:=h1.row
   obtain⟨ba,off,hA,hb,hcd⟩:=Hz (HR.out.up (Grew.of_below h1.below)) (k:=d) (by rw[HN.out];exact hxn)
   have hix:=aO (cap:=c) Tryz.underlying39 Tryz.sizeOf3 hA.out (show d<n from hxn)
   rw[Nat.mul_one] at hix
   have hiy:=Sj (g:=g) hxn
   have hiz:=Sj (g:=g) hcn
   have c1:=hrow.cell hxn
   have c2:=hrow.cell hcn
   have f1:=hrow.frz d
   have lg:=hrow.lt.2
   have y0:=ag h1.sb 0
   have ly:=au h1.sb
   have z0:=ag h1.cb 0
   have lz:=au h1.cb
   have t0:=ag h2 0
   have lt0:=au h2
   have yA:W.heap[w.heap.size]?=_:=h1.bx 0 _ (by rw[mF.out];rfl)
   have acb:W.heap[w.heap.size+1]?=_:=h1.bx 1 _ (by rw[mF.out];rfl)
   have e5:=ag yA 5
   have n0:=ag acb 0
   have lw:=au yA
   have lw2:=au acb
   obtain⟨vd,hvd⟩:∃v,o1.getD d 0=v:=⟨_,rfl⟩
   obtain⟨vc,hvc⟩:∃v,o1.getD cc 0=v:=⟨_,rfl⟩
   obtain⟨vs,hvs⟩:∃v,xH cs d=v:=⟨_,rfl⟩
   have aec:cs.getD d 0=vs:=hvs
   rw[hvd] at c1
   rw[hvc] at c2 i2
   rw[hvs] at hcd
   unfold visit at Sr
   dsimp only at Sr
   rw[hvd,hvc,aec] at Sr
   have hvb:-1<=vc/\vc<=n:=by
    have:=i1.bd vc (by rw[<-hvc];exact getD_mem (by rw[i1.len];exact hcn))
    dsimp only at this
    omega
   have acW:=hide Sr
   have H1:=hide h1
   have H2:=hide h2
   have H3:=hide h3
   have HI1:=hide i1
   have Ac:=hide hrow
   have HVD:=hide hvd
   clear h1 h2 h3 i1 hrow Sr yA acb hvd hvc hvs aec hs1 hA i3 hlt hd hsz
   simp only[List.setIfInBounds_toArray,List.set_cons_succ,List.set_cons_zero]
   have hcase:¬ vd<0\/(vd<0/\¬ need<=vs)\/(vd<0/\need<=vs):=by omega
   rcases hcase with g1|⟨g1,g2⟩|⟨g1,g2⟩
   ·gi_upto_region 9 with fail
    refine dn 14 [] [] hm (h:=?_)
    repeat (refine ax (fun K hK=>?_);go_simp;refine hK _ ?_;clear hK K)
    refine AB fun nq osq=>?_
    try simp only[Act.put,aG]
    try dsimp only
    gi_wp2_with fail
    have hgg:Grew W (Sort.grow (dr W nq) osq):=Grew.mk W nq osq
    exact⟨hgg.aS _,gW.grew hgg,⟨⟨by rw[acW.out,if_neg (by omega)];exact H1.out.grew hgg,(hgg.heap (au H2.out)).trans H2.out⟩,H3.out.grew hgg⟩⟩
   ·gi_upto_region 9 with fail
    refine dn 14 [] [] hm (h:=?_)
    repeat (refine ax (fun K hK=>?_);go_simp;refine hK _ ?_;clear hK K)
    refine AB fun nq osq=>?_
    try simp only[Act.put,aG]
    try dsimp only
    gi_wp2_with fail
    have hgg:Grew W (Sort.grow (dr W nq) osq):=Grew.mk W nq osq
    exact⟨hgg.aS _,gW.grew hgg,⟨⟨by rw[acW.out,if_neg (by omega)];exact H1.out.grew hgg,(hgg.heap (au H2.out)).trans H2.out⟩,H3.out.grew hgg⟩⟩
   ·gi_upto_region 9 with fail
    refine dn 14 [] [] hm (h:=?_)
    repeat (refine ax (fun K hK=>?_);go_simp;refine hK _ ?_;clear hK K)
    refine AB fun nq osq=>?_
    try simp only[Act.put,aG]
    try dsimp only
    gi_upto_region 10 with fail
    revert nq osq
    intro nq0 ai6
    refine dn 8 [] [] hm (h:=?_)
    repeat (refine ax (fun K hK=>?_);go_simp;refine hK _ ?_;clear hK K)
    refine AB fun nq osq=>?_
    try simp only[Act.put,aG]
    try dsimp only
    gi_upto_region 11 with fail
    refine dJ ?_
    intro a9 W9 ha9 hW9
    have aaZ:st (pre++[x])=(o1.set d (vc+1),q1++[d]):=by rw[acW.out,if_pos ⟨g1,g2⟩]
    have aeA:=(acX.out (pre++[x])).1
    rw[aaZ] at aeA
    have hroom:=aeA.room
    dsimp only at hroom
    rw[List.length_append,List.length_singleton] at hroom
    have hgY:Grew (W.setCell ⟨g,d,none⟩ (.int .i64 (vc+1))) W9:=by rw[<-hW9];exact Grew.mk _ _ _
    have FP:Jz w bx S g n (o1.set d (vc+1),q1) W9:=(H1.out.abE (by omega) hgs d (vc+1)).grew hgY
    have agr:Marks w.heap.size Ds W9:=(H3.out.abE H1.out.row d _).grew hgY
    have hz9:W9.heap[Z]?=some (.cells #[.int .i64 (cc:Int)] 3 (0,0)):=(hgY.heap (by simpa using au H2.out)).trans ((heap_setCell_other W ⟨g,d,none⟩ Z _ (by dsimp only;omega)).trans H2.out)
    have agz:KeepsFrom w4.heap.size W W9:=(KeepsFrom.setCell _ _ _ _).trans (hgY.aS _)
    have agy:gW (fun b _=>b=g) W W9:=(gW.set _ _ _ _ (fun _=>rfl)).trans (gW.grew hgY)
    have oU:W9.cell? ⟨S+1+1,0,none⟩=_:=ag FP.cb 0
    clear hW9
    subst ha9
    obtain⟨ca9,cb9,Zg⟩:=FP.ch
    have aev:=au Zg
    refine lI.region (show lI _ _ _ _ _ [0,1,2] _ _ from ?_)
    refine lI.value (v:=.chan (some (S+1))) (w':=W9) rfl (by simp[Region.wanted]) (by intro f h;simp[Oper.about] at h) (by simp[go_sem,Act.eval,oU]) ?_
    refine lI.value (v:=.int .i64 d) (w':=W9) rfl (by simp[Region.wanted]) (by intro f h;simp[Oper.about] at h) (by simp[go_sem,Act.eval]) ?_
    refine lI.send (v:=.int .i64 d) rfl (by simp[Region.wanted]) (by intro f h;simp[Oper.about] at h) (by simp[go_sem,Act.eval];rfl) Zg (by simp;omega) ?_
    have WB:=FP.chan (by omega) hgs (q1++[d]) ((q1.map fun c:Nat=>Value.int .i64 (c:Int)).toArray.push (.int .i64 d)) (by simp) (ca9+1) cb9
    have WG:=agr.chan (cap':=n) (buf':=(q1.map fun c:Nat=>Value.int .i64 (c:Int)).toArray.push (.int .i64 d)) (cl':=false) (s':=ca9+1) (r':=cb9) (tm':=false) Zg
    have ab8:=(heap_setChan_ne W9 (S+1) n ((q1.map fun c:Nat=>Value.int .i64 (c:Int)).toArray.push (.int .i64 d)) false (ca9+1) cb9 false Z (by omega)).trans hz9
    have WM:KeepsFrom w4.heap.size W9 (W9.setChan (S+1) n ((q1.map fun c:Nat=>Value.int .i64 (c:Int)).toArray.push (.int .i64 d)) false (ca9+1) cb9 false):=⟨by simp[World.setChan],fun k o hk h0 _=>(heap_setChan_ne W9 _ _ _ _ _ _ _ k (by have:=XZ.out;omega)).trans h0⟩
    have WL:gW (fun b _=>b=g) W9 (W9.setChan (S+1) n ((q1.map fun c:Nat=>Value.int .i64 (c:Int)).toArray.push (.int .i64 d)) false (ca9+1) cb9 false):=fun b cs T fr _ hb=>(heap_setChan_ne W9 _ _ _ _ _ _ _ b (fun e=>by rw[e,Zg] at hb;cases hb)).trans hb
    have hbuf:((q1.map fun c:Nat=>Value.int .i64 (c:Int)).toArray.push (.int .i64 d))=((q1.map fun c:Nat=>Value.int .i64 (c:Int))++[Value.int .i64 (d:Int)]).toArray:=by simp
    rw[hbuf] at WB WG ab8 WM WL
    have hfin:∀a8:Act,ownPostG w4.heap.size (gW fun b _=>b=g) (fun pre W=>(Jz w bx S g n (st pre) W/\W.heap[Z]?=some (.cells #[.int .i64 (cc:Int)] 3 (0,0)))/\Marks w.heap.size Ds W) (fun _ _ _=>False) (pre++[x]) W Exit.normal a8 (W9.setChan (S+1) n ((q1.map fun c:Nat=>Value.int .i64 (c:Int))++[Value.int .i64 (d:Int)]).toArray false (ca9+1) cb9 false) :=
     fun _=>⟨agz.trans WM,agy.trans WL,⟨⟨by rw[aaZ];exact WB,ab8⟩,WG⟩⟩
    refine lI.tail 3 [] rfl ?_
    have ahF:=hide hfin
    clear WB WG ab8 WM WL hfin hbuf
    go_simp
    gi_wp2_with fail
    exact ahF.out _
  case done =>
   rintro D xs W hD hS ⟨⟨h1,h2⟩,h3⟩ hK9
   subst ha
   obtain⟨i1,i2,i3⟩:=acX.out xs
   have hfin:oW fV gK cs need (k+1) (kz n to)=st xs:=by rw[ahg.out xs hS,<-HK.out];rfl
   have hml:PH (st xs)<m:=by rw[<-hm1];unfold PH;rw[i3];simp
   have WE:Marks w.heap.size (D::Ds) W:=⟨List.nodup_cons.2 ⟨fun h=>by have:=au (hmk5.op D h).2;omega,h3.nd⟩,fun D' h=>by
    rcases List.mem_cons.1 h with rfl|h
    ·exact⟨by have:=qK.out.below.size;have:=HW3.out.below.size;omega,hK9⟩
    ·exact h3.op D' h⟩
   have H1:=hide h1
   have HF:=hide hfin
   have HML:=hide hml
   have HM6:=hide WE
   have HI1:=hide i1
   clear h1 h2 h3 hK9 i1 i2 i3 hfin hml WE
   gi_wp2_with fail
   exact⟨_,HML.out,k+1,_,D::Ds,HF.out,HI1.out,rfl,LF.of rfl,H1.out,HM6.out⟩
  case stop=>exact fun _ _ _ _ _ _ h _=>h.elim
set_option maxHeartbeats 16000000
set_option maxRecDepth 100000
def afd (w:World)(gw gh:Nat)(cs:List Int)(need:Int)(f to:Nat)(e:Ending)(w':World):Prop :=
 ∃ (k:Nat) (o:List Int),oW gw gh cs need k (kz (gw*gh) to)=(o,[])/\Grew w w' /\
  ((cs.getD f 0<need\/cs.getD to 0<need\/o.getD f 0<0)/\e=.returned (.tuple #[.slice none 0 0,.int .i64 4]) \/
   (need<=cs.getD f 0/\need<=cs.getD to 0/\0<=o.getD f 0)/\∃A c,e=.returned (.tuple #[.slice A (vH o gw gh f).length c,.int .i64 0])/\Rd w' w'.heap.size 1 A ((vH o gw gh f).map fun d:Nat=>encZ (d:Int)))
def PF (to Z L Cb:Nat)(Ao:Option Addr)(m co:Nat)(Ds:List Nat)(a:Act):Prop:=∃f:Nat->Value,a={ tmps:=#[f 0,f 1,f 2,.int .i64 to,.pointer (some ⟨Z,0,none⟩),f 5,f 6,f 7,.slice none 0 0,.int .i64 0,f 10,.pointer (some ⟨L,0,none⟩),.slice Ao m co,.pointer (some ⟨Cb,0,none⟩),f 14,f 15,f 16,f 17,f 18,f 19,f 20,f 21,f 22,f 23,f 24,f 25,f 26,f 27,f 28,f 29,f 30,f 31,f 32,f 33,f 34,f 35,f 36,f 37,f 38,f 39,f 40,f 41,f 42,f 43,f 44,f 45,f 46,f 47,f 48,f 49,f 50,f 51,f 52,f 53,f 54,f 55,f 56,f 57,f 58,f 59,f 60,f 61,f 62,f 63,f 64,f 65,f 66,f 67,f 68,f 69,f 70,f 71,f 72,f 73,f 74,f 75,f 76,f 77,f 78,f 79,f 80,f 81,f 82,f 83,f 84,f 85,f 86,f 87,f 88,f 89,f 90,f 91,f 92,f 93],defers:=Ds.map mark }
theorem PF.of {to Z L Cb:Nat}{Ao:Option Addr}{m co:Nat}{Ds:List Nat}{a:Act}(h:a={ tmps:=#[a.tmps.toList.getD 0 undef,a.tmps.toList.getD 1 undef,a.tmps.toList.getD 2 undef,.int .i64 to,.pointer (some ⟨Z,0,none⟩),a.tmps.toList.getD 5 undef,a.tmps.toList.getD 6 undef,a.tmps.toList.getD 7 undef,.slice none 0 0,.int .i64 0,a.tmps.toList.getD 10 undef,.pointer (some ⟨L,0,none⟩),.slice Ao m co,.pointer (some ⟨Cb,0,none⟩),a.tmps.toList.getD 14 undef,a.tmps.toList.getD 15 undef,a.tmps.toList.getD 16 undef,a.tmps.toList.getD 17 undef,a.tmps.toList.getD 18 undef,a.tmps.toList.getD 19 undef,a.tmps.toList.getD 20 undef,a.tmps.toList.getD 21 undef,a.tmps.toList.getD 22 undef,a.tmps.toList.getD 23 undef,a.tmps.toList.getD 24 undef,a.tmps.toList.getD 25 undef,a.tmps.toList.getD 26 undef,a.tmps.toList.getD 27 undef,a.tmps.toList.getD 28 undef,a.tmps.toList.getD 29 undef,a.tmps.toList.getD 30 undef,a.tmps.toList.getD 31 undef,a.tmps.toList.getD 32 undef,a.tmps.toList.getD 33 undef,a.tmps.toList.getD 34 undef,a.tmps.toList.getD 35 undef,a.tmps.toList.getD 36 undef,a.tmps.toList.getD 37 undef,a.tmps.toList.getD 38 undef,a.tmps.toList.getD 39 undef,a.tmps.toList.getD 40 undef,a.tmps.toList.getD 41 undef,a.tmps.toList.getD 42 undef,a.tmps.toList.getD 43 undef,a.tmps.toList.getD 44 undef,a.tmps.toList.getD 45 undef,a.tmps.toList.getD 46 undef,a.tmps.toList.getD 47 undef,a.tmps.toList.getD 48 undef,a.tmps.toList.getD 49 undef,a.tmps.toList.getD 50 undef,a.tmps.toList.getD 51 undef,a.tmps.toList.getD 52 undef,a.tmps.toList.getD 53 undef,a.tmps.toList.getD 54 undef,a.tmps.toList.getD 55 undef,a.tmps.toList.getD 56 undef,a.tmps.toList.getD 57 undef,a.tmps.toList.getD 58 undef,a.tmps.toList.getD 59 undef,a.tmps.toList.getD 60 undef,a.tmps.toList.getD 61 undef,a.tmps.toList.getD 62 undef,a.tmps.toList.getD 63 undef,a.tmps.toList.getD 64 undef,a.tmps.toList.getD 65 undef,a.tmps.toList.getD 66 undef,a.tmps.toList.getD 67 undef,a.tmps.toList.getD 68 undef,a.tmps.toList.getD 69 undef,a.tmps.toList.getD 70 undef,a.tmps.toList.getD 71 undef,a.tmps.toList.getD 72 undef,a.tmps.toList.getD 73 undef,a.tmps.toList.getD 74 undef,a.tmps.toList.getD 75 undef,a.tmps.toList.getD 76 undef,a.tmps.toList.getD 77 undef,a.tmps.toList.getD 78 undef,a.tmps.toList.getD 79 undef,a.tmps.toList.getD 80 undef,a.tmps.toList.getD 81 undef,a.tmps.toList.getD 82 undef,a.tmps.toList.getD 83 undef,a.tmps.toList.getD 84 undef,a.tmps.toList.getD 85 undef,a.tmps.toList.getD 86 undef,a.tmps.toList.getD 87 undef,a.tmps.toList.getD 88 undef,a.tmps.toList.getD 89 undef,a.tmps.toList.getD 90 undef,a.tmps.toList.getD 91 undef,a.tmps.toList.getD 92 undef,a.tmps.toList.getD 93 undef],defers:=Ds.map mark }):PF to Z L Cb Ao m co Ds a:=⟨fun i=>a.tmps.toList.getD i undef,h⟩
structure QI (w:World) (gb:Obj) (L g n:Nat) (o:List Int) (Ao:Option Addr) (m co:Nat) (outs:List Int) (Cb c:Nat) (W:World):Prop where
 below:Below w.heap.size w W
 gb:W.heap[w.heap.size]?=some gb
 lb:W.heap[L]?=some (.cells #[.slice (some ⟨g,0,none⟩) n n] 39 (0,0))
 row:nC W w.heap.size g n o
 oz:OZ W (L+1) (.slice Ao m co) outs
 cell:W.heap[Cb]?=some (.cells #[.int .i64 (c:Int)] 3 (0,0))
theorem QI.own {β:Type}{B:Nat}{w:World}{gb:Obj}{L g n:Nat}{o:List Int}{Ao:Option Addr}{m co:Nat}{outs:List Int}{Cb:Nat}(cc:β->Nat)(h1:w.heap.size<B)(h2:L<B)(h3:g<B)(h4:Cb<B):OwnFrom B (fun (s:β) W=>QI w gb L g n o Ao m co outs Cb (cc s) W):=by
 intro s X Y row h hg hr
 refine⟨ownFrom_below (β:=Unit) (Nat.le_refl _) (by omega) () X Y row h.below hg hr,nz (β:=Unit) h1 () X Y row h.gb hg hr,nz (β:=Unit) h2 () X Y row h.lb hg hr,⟨h.row.1,World.ownsRow.kept h.row.2 hg (.inr fun e=>by have:=(hr g e.symm).1;omega)⟩,World.ownsRow.kept h.oz hg ?_,nz (β:=Unit) h4 () X Y row h.cell hg hr⟩
 rcases h.oz.2 with⟨e,_⟩|⟨g',cap,cur,e,_,hgb,_⟩
 ·rw[e];exact .inl rfl
 ·rw[e]
  refine .inr fun e'=>?_
  obtain⟨ob,ho,hc⟩:=(hr g' (by simpa[Value.ownBlock] using e'.symm)).2
  rw[hgb] at ho
  cases ho
  cases hc
theorem QI.grew {w W W':World}{gb:Obj}{L g n:Nat}{o:List Int}{Ao:Option Addr}{m co:Nat}{outs:List Int}{Cb c:Nat}(h:QI w gb L g n o Ao m co outs Cb c W)(hg:Grew W W'):QI w gb L g n o Ao m co outs Cb c W' :=
 ⟨h.below.trans (hg.below.mono h.below.size),(hg.heap (au h.gb)).trans h.gb,(hg.heap (au h.lb)).trans h.lb,h.row.grew hg,h.oz.grew hg,(hg.heap (au h.cell)).trans h.cell⟩
theorem QI.af4 {w W:World}{gb:Obj}{L g n:Nat}{o:List Int}{Ao:Option Addr}{m co:Nat}{outs:List Int}{Cb c:Nat}(h:QI w gb L g n o Ao m co outs Cb c W)(hC:L<Cb)(hgL:g<L)(hwL:w.heap.size<L)(hne:(Value.slice Ao m co).ownBlock≠some Cb)(d:Nat):QI w gb L g n o Ao m co outs Cb d (W.setCell ⟨Cb,0,none⟩ (.int .i64 (d:Int))):=by
 have ho:∀k,k≠Cb->(W.setCell ⟨Cb,0,none⟩ (.int .i64 (d:Int))).heap[k]?=W.heap[k]?:=fun k hk=>heap_setCell_other W ⟨Cb,0,none⟩ k _ hk
 have hgb:W.grownBy (W.setCell ⟨Cb,0,none⟩ (.int .i64 (d:Int))) (some Cb):=jf (iC W (some Cb)) 0 _
 refine⟨gz hgb h.below (by omega),(ho _ (by omega)).trans h.gb,(ho _ (by omega)).trans h.lb,⟨h.row.1,World.ownsRow.kept h.row.2 hgb (.inr fun e=>by have e2:g=Cb:=(by simpa[Value.ownBlock] using e);omega)⟩,World.ownsRow.kept h.oz hgb (.inr hne),?_⟩
 have hc:=h.cell
 simp[World.setCell,Array.getElem?_modify,hc]
theorem OZ.kpm {W W':World}{base:Nat}{v:Value}{xs:List Int}(h:OZ W base v xs)(hk:gW (fun _ _=>False) W W'):OZ W' base v xs:=by
 refine⟨h.1,?_⟩
 rcases h.2 with h0|⟨g',cap,cur,e,hb,hg,rest⟩
 ·exact .inl h0
 ·exact .inr ⟨g',cap,cur,e,hb,hk _ _ _ _ id hg,rest⟩
theorem OZ.nb {W:World}{base:Nat}{v:Value}{xs:List Int}(h:OZ W base v xs){D:Nat}{x:Option (List Deferred)}(hd:W.heap[D]?=some (.deferred x)):v.ownBlock≠some D:=by
 intro e
 rcases h.2 with⟨e0,_⟩|⟨g',cap,cur,e0,_,hgb,_⟩
 ·rw[e0] at e;cases e
 ·rw[e0] at e
  have e2:g'=D:=by simpa[Value.ownBlock] using e
  rw[e2,hd] at hgb
  cases hgb
def oZ (o:List Int)(gw gh f j:Nat):List Int:=(List.range (j+1)).map fun i=>((curC o gw gh f i:Nat):Int)
theorem NM (o:List Int)(gw gh f j:Nat):oZ o gw gh f (j+1)=oZ o gw gh f j++[((curC o gw gh f (j+1):Nat):Int)]:=by
 unfold oZ
 rw[List.range_succ,List.map_append]
 rfl
theorem Marks.setB {Z:Nat}{Ds:List Nat}{W:World}{b:Nat}{cs:Array Value}{T:TypeId}(h:Marks Z Ds W)(hb:W.heap[b]?=some (.cells cs T (0,0)))(i:Nat)(v:Value):Marks Z Ds (W.setCell ⟨b,i,none⟩ v):=⟨h.nd,fun D hD=>⟨(h.op D hD).1,by
 refine (heap_setCell_other W ⟨b,i,none⟩ D v (fun e=>?_)).trans (h.op D hD).2
 have h1:=(h.op D hD).2
 rw[show D=b from e,hb] at h1
 cases h1⟩⟩
theorem OU (cx cy sz:Int)(fV gK:Nat)(A:Option Addr)(c:Nat)(cs:List Int)(need:Int)(fr to:Nat)(w:World)(hr:Rd w w.heap.size 1 A (cs.map encZ))(hw:1<=fV/\fV<=64)(hh:1<=gK/\gK<=64)(hn:cs.length=fV*gK)(hf:fr<fV*gK)(ht:to<fV*gK)
  (hok:vT ⟨cx,cy,sz,fV,gK,A,c,cs⟩ need=true) :
  Calls Tryz.prog 11 #[Gr.val ⟨cx,cy,sz,fV,gK,A,c,cs⟩,.int .i64 need,.int .i64 fr,.int .i64 to] w (afd w fV gK cs need fr to):=by
 have hm:=aP
 obtain⟨n,hnn⟩:∃n,cs.length=n:=⟨_,rfl⟩
 have agq:1<=n/\n<=4096:=by
  have h1:fV*gK<=64*64:=Nat.mul_le_mul hw.2 hh.2
  have h2:1*1<=fV*gK:=Nat.mul_le_mul hw.1 hh.1
  omega
 have hne:fV*gK=n:=by omega
 have k1:=hide (fun W (hg:Grew w W)=>PT ⟨cx,cy,sz,fV,gK,A,c,cs⟩ need true W (hr.up hg) (by dsimp only;omega) hok)
 have k2:=hide (fun W (hg:Grew w W)=>aaf cx cy sz fV gK A c cs need to W (hr.up hg) hw hh hn ht)
 have k3:=hide (fun W (d:Int)=>GY ⟨cx,cy,sz,fV,gK,A,c,cs⟩ d W)
 have HR:=hide hr
 have HN:=hide hnn
 have HNE:=hide hne
 unfold Gr.val at k1 k2 k3 ⊢
 dsimp only at k1 k2 k3 ⊢
 simp only[hnn,hne] at k1 k2 k3 hf ht ⊢
 clear hr hnn hne hok hn
 refine (callsIn_wide (n:=13)).1 ?_
 refine callsIn_of_wp_marks Tryz.func11 rfl trivial ?_ rfl
 simp only[Tryz.ntmps11,List.size_toArray,List.length_cons,List.length_nil,Nat.reduceAdd,Nat.reduceSub,Array.replicate_succ,Array.replicate_zero,List.push_toArray,List.append_toArray,List.nil_append,List.cons_append]
 have b1:¬ (fr:Int)<0:=by omega
 have b2:¬ (n:Int)<=(fr:Int):=by omega
 have b3:¬ (to:Int)<0:=by omega
 have b4:¬ (n:Int)<=(to:Int):=by omega
 gi_wp2_with fail
 refine⟨trivial,?_⟩
 refine (callsIn_wide.2 (k1.out _ gw)).mono ?_
 rintro e w1 ⟨rfl,hg1⟩
 dsimp only
 have hb1:Bx w1 w.heap.size [.cells #[.int .i64 cx,.int .i64 cy,.int .i64 sz,.int .i64 (fV:Int),.int .i64 (gK:Int),.slice A n c] 41 (0,0)]:=by refine (Bx.lT _ w).1.grew ?_;simp only[List.foldl];exact hg1
 have hw1:Grew w w1:=Grew.trans gw hg1
 have hq0:w1.heap[w.heap.size]?=_:=hb1 0 _ rfl
 have e0:=ag hq0 0
 have e1:=ag hq0 1
 have e2:=ag hq0 2
 have e3:=ag hq0 3
 have e4:=ag hq0 4
 have e5:=ag hq0 5
 have lq:=au hq0
 have HQ0:=hide hq0
 have HW1:=hide hw1
 clear hg1 hb1 hw1 hq0
 gi_wp2_with fail
 refine⟨trivial,?_⟩
 refine (callsIn_wide.2 (k2.out _ HW1.out)).mono ?_
 rintro e w2 ⟨k,o,g,rfl,hqi,hol,hrow,hg2⟩
 dsimp only
 gi_upto_region 5 with fail
 refine dJ ?_
 intro a0 W2 ha hW2
 subst ha
 have hgL:Grew w2 W2:=by rw[<-hW2];exact gw
 have hLb:W2.heap[w2.heap.size]?=some (.cells #[.slice (some ⟨g,0,none⟩) n n] 39 (0,0)):=by rw[<-hW2];first|exact heap_alloc_new _ _|(simp only[hol];exact heap_alloc_new _ _)
 have hgW:Grew w W2:=(HW1.out.trans hg2).trans hgL
 have hrow2:=hrow.grew hgL
 have hq2:=((hg2.trans hgL).heap lq).trans HQ0.out
 obtain⟨L,hL⟩:∃L,w2.heap.size=L:=⟨_,rfl⟩
 rw[hL] at hLb ⊢
 have HW2:=hide hW2
 have HLL:=hide hL
 clear hW2 e0 e1 e2 e3 e4 e5 lq hL
 have e5:=ag hq2 5
 have lq:=au hq2
 have y0:=ag hLb 0
 have ly:=au hLb
 obtain⟨ba,off,hA,hba,hcf⟩:=Hz (HR.out.up hgW) (k:=fr) (by rw[HN.out];exact hf)
 obtain⟨ba',off',hA',agI,hct⟩:=Hz (HR.out.up hgW) (k:=to) (by rw[HN.out];exact ht)
 obtain⟨rfl,rfl⟩:ba=ba'/\off=off':=by
  have:=hA.out.symm.trans hA'.out
  simpa using this
 have ix1:=aO (cap:=c) Tryz.underlying39 Tryz.sizeOf3 hA.out hf
 have ix2:=aO (cap:=c) Tryz.underlying39 Tryz.sizeOf3 hA.out ht
 have ix3:=Sj (g:=g) hf
 rw[Nat.mul_one] at ix1 ix2
 have cf:=hrow2.cell hf
 have lg:=hrow2.lt.2
 obtain⟨vf,hvf⟩:∃v,xH cs fr=v:=⟨_,rfl⟩
 obtain⟨vt,hvt⟩:∃v,xH cs to=v:=⟨_,rfl⟩
 obtain⟨vl,hvl⟩:∃v,o.getD fr 0=v:=⟨_,rfl⟩
 rw[hvf] at hcf
 rw[hvt] at hct
 rw[hvl] at cf
 have Ac:=hide hrow2
 have HLB:=hide hLb
 have HGW:=hide hgW
 have HQ2:=hide hq2
 have HVF:Hid (cs.getD fr 0=vf):=hide hvf
 have HVT:Hid (cs.getD to 0=vt):=hide hvt
 have HVL:=hide hvl
 have HQI:=hide hqi
 have HOL:=hide hol
 clear hrow hrow2 hLb hgW hq2 hvf hvt hvl hqi hol hA hA' hg2 hgL HQ0 hba agI
 have hcase:vf<need\/(¬ vf<need/\vt<need)\/(¬ vf<need/\¬ vt<need/\vl<0)\/(¬ vf<need/\¬ vt<need/\¬ vl<0):=by omega
 rcases hcase with d1|⟨d1,d2⟩|⟨d1,d2,d3⟩|⟨d1,d2,d3⟩
 case inr.inr.inr =>
  have hinv:=zB (cs:=cs) (need:=need) hw.1 (show to<fV*gK by rw[HNE.out];exact ht) k
  rw[HNE.out,HQI.out] at hinv
  have hp:wS fV gK to cs need o:=hinv.2
  have hvb:0<=vl/\vl<=n:=by
   have:=hinv.1.bd vl (by rw[<-HVL.out];exact getD_mem (by rw[hinv.1.len];exact hf))
   dsimp only at this
   omega
  have HP:=hide hp
  clear hinv hp
  gi_wp2_with fail
  refine dJ ?_
  intro a1 W3 ha1 hW3
  have hg3:Grew W2 W3:=by rw[<-hW3];exact gw
  have hb3:W3.heap[W2.heap.size]?=some (.cells #[.int .i64 (fr:Int)] 3 (0,0)):=by rw[<-hW3];exact (heap_alloc_old _ _ (by simp)).trans (heap_alloc_new _ _)
  have hc3:W3.heap[W2.heap.size+1]?=some (.cells #[.int .i64 (fr:Int)] 3 (0,0)):=by rw[<-hW3];exact az _ _ _ (by simp)
  have hLs:L<W2.heap.size:=au HLB.out
  have agD:g<L:=by
   have h1:=HW2.out
   have h2:=Ac.out.lt.2
   have h3:=HLL.out
   rw[<-h1] at h2
   simp at h2
   have h4:g≠L:=fun e=>by
    obtain⟨cs',h5⟩:=Ac.out.ex
    rw[e,HLB.out] at h5
    injection h5 with h5
    injection h5 with _ h5
    revert h5
    decide
   omega
  have hwL:w.heap.size<L:=by
   have h1:=HQ2.out
   have h2:=au h1
   have h3:=Ac.out.lt.1
   have h4:=HW1.out.below.size
   omega
  have Sz:QI w (.cells #[.int .i64 cx,.int .i64 cy,.int .i64 sz,.int .i64 (fV:Int),.int .i64 (gK:Int),.slice A n c] 41 (0,0)) L g n o (some ⟨W2.heap.size,0,none⟩) (0+1) 1 (oZ o fV gK fr 0) (W2.heap.size+1) (curC o fV gK fr 0) W3 :=
   ⟨HGW.out.below.trans (hg3.below.mono HGW.out.below.size),(hg3.heap (au HQ2.out)).trans HQ2.out,(hg3.heap hLs).trans HLB.out,(Ac.out.grew hg3).base HW1.out.below.size,OZ.of [(fr:Int)] hb3 (by omega) rfl (by simp) rfl,hc3⟩
  subst ha1
  clear hW3 hb3 hc3 hcf hct cf ix1 ix2 ix3 b1 b2 b3 b4 e5 lq y0 ly
  refine wpIn_loop_ghost (fun m a W=>∃ (j:Nat) (Ao:Option Addr) (mo co Cb:Nat) (Ds:List Nat),(j:Int)<=vl/\vl.toNat-j=m/\mo=j+1/\PF to w.heap.size L Cb Ao mo co Ds a /\
   QI w (.cells #[.int .i64 cx,.int .i64 cy,.int .i64 sz,.int .i64 (fV:Int),.int .i64 (gK:Int),.slice A n c] 41 (0,0)) L g n o Ao mo co (oZ o fV gK fr j) Cb (curC o fV gK fr j) W/\L<Cb/\(Value.slice Ao mo co).ownBlock≠some Cb/\Marks w.heap.size Ds W) (vl.toNat) ⟨0,_,0+1,1,_,[],by omega,by omega,rfl,PF.of rfl,Sz,by omega,by simp[Value.ownBlock],⟨List.nodup_nil,fun _ h=>by cases h⟩⟩ ?_
  rintro m a W ⟨j,Ao,mo,co,Cb,Ds,hj,hjm,hmo,⟨f,rfl⟩,hps,hLC,hob,hmk⟩
  obtain⟨cu,hcu⟩:∃cu,curC o fV gK fr j=cu:=⟨_,rfl⟩
  have aeB:fr<fV*gK:=by rw[HNE.out];exact hf
  obtain⟨hc1,hc2⟩:=Oy HP.out hw.1 aeB j (by rw[HVL.out];exact hj)
  rw[hcu,HVL.out] at hc2
  rw[hcu] at hc1 hps
  have hcn:cu<n:=by rw[<-HNE.out];exact hc1
  have t0:=ag hps.cell 0
  have lt0:=au hps.cell
  have QL:=hide hps
  have Uj:=hide hmk
  have HCU:=hide hcu
  have HC2:=hide hc2
  have O3:=hide hc1
  have HOB:=hide hob
  have HMO:=hide hmo
  clear hps hmk hcu hc2 hc1 hob hmo aeB
  by_cases hto:cu=to
  ·have hz:=HP.out.at0
   have hvj:vl.toNat=j:=by
    have h9:=HC2.out
    rw[hto,hz] at h9
    have h8:=hvb.1
    omega
   gi_wp2_with fail
   show LeavesInM _ _ _ _ _ _ (Ds.map mark) .returning W
   refine uq Ds W Uj.out QL.out.below fun W' h1 h2=>?_
   have agh:(vH o fV gK fr).length=mo:=by unfold vH;rw[List.length_map,List.length_range,HVL.out,hvj,HMO.out]
   obtain⟨A9,c9,e9,hrd⟩:=OZ.rd (QL.out.oz.kpm h1)
   injection e9 with e9 _ e9'
   subst e9 e9'
   refine⟨.tuple #[.slice Ao mo co,.int .i64 0],by simp[results,Tryz.results11,go_sem],?_⟩
   refine⟨k,o,by rw[HNE.out];exact HQI.out,Grew.of_below h2,.inr ⟨?_,Ao,co,by rw[agh],?_⟩⟩
   ·rw[HVF.out,HVT.out,HVL.out]
    exact⟨by omega,by omega,hvb.1⟩
   ·have:(vH o fV gK fr).map (fun d:Nat=>encZ (d:Int))=(oZ o fV gK fr j).map encZ:=by unfold vH oZ;rw[HVL.out,hvj,List.map_map,List.map_map];rfl
    rw[this]
    exact hrd
  ·have hpos:0<o.getD cu 0:=by
    have h1:=HC2.out
    have h2:¬ o.getD cu 0=0:=fun h=>hto (HP.out.zero cu O3.out h)
    omega
   obtain⟨hn1,hn2,hn3⟩:=PS HP.out O3.out hpos hw.1
   obtain⟨nx,hnx⟩:∃c,zg o fV gK cu=c:=⟨_,rfl⟩
   rw[hnx] at hn1 hn2 hn3
   have hnx2:curC o fV gK fr (j+1)=nx:=by show zg o fV gK _=nx;rw[HCU.out,hnx]
   have hjl:((j+1:Nat):Int)<=vl:=by have:=HC2.out;omega
   have q0:=ag QL.out.gb 0
   have q1:=ag QL.out.gb 1
   have q2:=ag QL.out.gb 2
   have q3:=ag QL.out.gb 3
   have q4:=ag QL.out.gb 4
   have q5:=ag QL.out.gb 5
   have lq:=au QL.out.gb
   have HN1:=hide hn1
   have Dz:=hide hn2
   have HN3:=hide hn3
   have Ht:=hide hnx2
   clear hn1 hn2 hn3 hnx hnx2 hpos
   gi_wp2_with fail
   refine⟨trivial,?_⟩
   refine (callsIn_wide.2 (k3.out _ _)).mono ?_
   rintro e w4 ⟨rfl,hw4⟩
   dsimp only
   gi_wp2_with fail
   refine dJ ?_
   intro a2 W0 ha2 hW0
   subst hW0
   have hg4:Grew W w4:=by rw[<-hw4];exact gw
   have hbg:w4.heap[W.heap.size]?=some (.cells #[.int .i64 cx,.int .i64 cy,.int .i64 sz,.int .i64 (fV:Int),.int .i64 (gK:Int),.slice A n c] 41 (0,0)):=by rw[<-hw4];exact (heap_alloc_old _ _ (by simp)).trans (heap_alloc_new _ _)
   have hbi:w4.heap[W.heap.size+1]?=some (.cells #[.int .i64 (cu:Int)] 3 (0,0)):=by rw[<-hw4];exact az _ _ _ (by simp)
   have hsz:w4.heap.size=W.heap.size+2:=by rw[<-hw4];simp
   have agn:=QL.out.grew hg4
   have Zd:=Uj.out.grew hg4
   have hev:a2.eval (.tmp 75)=.func (.func 78) #[] #[.pointer (some ⟨W.heap.size+1,0,none⟩),.pointer (some ⟨W.heap.size,0,none⟩)]:=by rw[<-ha2];simp[Act.eval]
   have XZ:=hide hsz
   clear hw4 hg4 q0 q1 q2 q3 q4 q5 lq t0 hsz
   have hWs:w.heap.size<W.heap.size:=au QL.out.gb
   have ajH:L<W.heap.size:=au QL.out.lb
   have hCs:Cb<W.heap.size:=au QL.out.cell
   have hgs:g<W.heap.size:=QL.out.row.lt.2
   obtain⟨dst,hdst⟩:∃dst:List (Fin (fV*gK))->Nat,dst=fun pre=>(pre.getLast?.map Fin.val).getD 0:=⟨_,rfl⟩
   have afD:Hid (∀ (p:List (Fin (fV*gK))) x,dst (p++[x])=x.1):=hide (fun p x=>by rw[hdst];simp)
   clear hdst
   refine wpIn_rangeFunc_ownH (n:=13) rfl (by omega) (gf:=78) (lb:=#[.pointer (some ⟨W.heap.size+1,0,none⟩),.pointer (some ⟨W.heap.size,0,none⟩)]) hev trivial (enters_of Tryz.func78 (by kernel_rfl) rfl)
    (BM 12 w.heap.size fV gK cu (W.heap.size+1) (W.heap.size) (fun b _=>b=Cb) cx cy sz (.slice A n c) w4 (fun b _ hb=>by omega) hbi hbg hw hh O3.out)
    (fun h k=>h.trans k) gW.bk (Below.refl _ _) (fun _=>rfl)
    (fun pre V=>(QI w (.cells #[.int .i64 cx,.int .i64 cy,.int .i64 sz,.int .i64 (fV:Int),.int .i64 (gK:Int),.slice A n c] 41 (0,0)) L g n o Ao mo co (oZ o fV gK fr j) Cb cu V/\Marks w.heap.size Ds V)/\∀d∈pre.map Fin.val,¬ o.getD d 0=o.getD cu 0-1)
    (fun q pre V=>((QI w (.cells #[.int .i64 cx,.int .i64 cy,.int .i64 sz,.int .i64 (fV:Int),.int .i64 (gK:Int),.slice A n c] 41 (0,0)) L g n o Ao mo co (oZ o fV gK fr j) Cb (dst pre) V/\Marks w.heap.size Ds V)/\(q=.exit 2/\∃p x,pre=p++[x]/\o.getD x.1 0=o.getD cu 0-1/\∀d∈p.map Fin.val,¬ o.getD d 0=o.getD cu 0-1)))
    (OwnFrom.and (OwnFrom.and (QI.own (fun _=>cu) (by have:=XZ.out;omega) (by have:=XZ.out;omega) (by have:=XZ.out;omega) (by have:=XZ.out;omega)) (Marks.own (fun D hD=>au (Zd.op D hD).2))) (ownFrom_pure _))
    (fun q=>OwnFrom.and (OwnFrom.and (QI.own dst (by have:=XZ.out;omega) (by have:=XZ.out;omega) (by have:=XZ.out;omega) (by have:=XZ.out;omega)) (Marks.own (fun D hD=>au (Zd.op D hD).2))) (ownFrom_pure _))
    ⟨⟨agn,Zd⟩,fun d hd=>by cases hd⟩
    (fun x a' _=>a'={ tmps:=(a2.tmps.setIfInBounds 76 (.int .i64 (x.1:Nat))).setIfInBounds 14 (.int .i64 (x.1:Nat)),defers:=[] })
    (fun x a'=>ownFrom_pure _)
    ?assign ?body ?done ?stop
   case assign =>
    rintro l pre x V K hI hK
    rw[show encI (fV*gK) x=#[.int .i64 (x.1:Nat)] from rfl,L9]
    subst ha2
    simp only[List.setIfInBounds_toArray,List.set_cons_succ,List.set_cons_zero] at hK ⊢
    have wu:=hide hK
    have HI:=hide hI
    clear hK hI
    gi_wp2_with fail
    exact wu.out _ _ ((Grew.refl _).aS _) (gW.grew (Grew.refl _)) HI.out rfl
   case body =>
    rintro l pre x a' V hl2 _ ⟨⟨h1,h2⟩,h3⟩ rfl hlt
    subst ha2
    obtain⟨d,hd⟩:∃d,x.1=d:=⟨_,rfl⟩
    have hdn:d<n:=by rw[<-hd,<-HNE.out];exact x.2
    simp only[hd]
    have c1:=h1.row.cell hdn
    have c2:=h1.row.cell hcn
    have iy:=Sj (g:=g) hdn
    have iz:=Sj (g:=g) hcn
    have lg:=h1.row.lt.2
    have y0:=ag h1.lb 0
    have ly:=au h1.lb
    have t0:=ag h1.cell 0
    have lt0:=au h1.cell
    have ft0:V.frozen? ⟨Cb,0,none⟩=false:=by simp[World.frozen?,h1.cell]
    obtain⟨vd,hvd⟩:∃v,o.getD d 0=v:=⟨_,rfl⟩
    obtain⟨vc,hvc⟩:∃v,o.getD cu 0=v:=⟨_,rfl⟩
    rw[hvd] at c1
    rw[hvc] at c2 h3
    have ajk:0<=vc/\vc<=n:=by have:=HC2.out;have:=hvb.2;omega
    have hwv:IntKind.i64.wrap (vc-1)=vc-1:=by unfold IntKind.wrap;simp[IntKind.bits,IntKind.signed];omega
    have H1:=hide h1
    have H2:=hide h2
    have H3:=hide h3
    have HD:=hide hd
    have HVD:=hide hvd
    have HVC:=hide hvc
    clear h1 h2 h3 hvd hvc hd hlt
    simp only[List.setIfInBounds_toArray,List.set_cons_succ,List.set_cons_zero]
    by_cases heq:vd=vc-1
    ·have e1:(vd==vc-1)=true:=by simp[heq]
     have HEQ:=hide heq
     clear heq
     gi_upto_region 12 with fail
     refine dn 10 [] [] hm (h:=?_)
     repeat (refine ax (fun K hK=>?_);go_simp;refine hK _ ?_;clear hK K)
     refine AB fun nq osq=>?_
     try simp only[Act.put,aG]
     try dsimp only
     gi_wp2_with fail
     have hgY:Grew (V.setCell ⟨Cb,0,none⟩ (.int .i64 (d:Int))) (Sort.grow (dr (V.setCell ⟨Cb,0,none⟩ (.int .i64 (d:Int))) nq) osq):=Grew.mk _ _ _
     refine⟨(KeepsFrom.setCell _ _ _ _).trans (hgY.aS _),⟨?_,(H2.out.setB H1.out.cell 0 _).grew hgY⟩,rfl,pre,x,rfl,?_,fun d' hd'=>?_⟩
     ·rw[afD.out,HD.out]
      exact (H1.out.af4 hLC agD hwL HOB.out d).grew hgY
     ·rw[HD.out,HVD.out,HVC.out]
      exact HEQ.out
     ·rw[HVC.out]
      exact H3.out d' hd'
    ·gi_upto_region 12 with fail
     refine dn 10 [] [] hm (h:=?_)
     repeat (refine ax (fun K hK=>?_);go_simp;refine hK _ ?_;clear hK K)
     refine AB fun nq osq=>?_
     try simp only[Act.put,aG]
     try dsimp only
     gi_wp2_with fail
     have hgg:Grew V (Sort.grow (dr V nq) osq):=Grew.mk V nq osq
     refine⟨hgg.aS _,gW.grew hgg,⟨⟨H1.out.grew hgg,H2.out.grew hgg⟩,fun d' hd'=>?_⟩⟩
     rw[HVC.out]
     rw[List.map_append,List.mem_append] at hd'
     rcases hd' with hd'|hd'
     ·exact H3.out d' hd'
     ·have e9:d'=d:=by rw[<-HD.out];simpa using hd'
      rw[e9,HVD.out]
      exact heq
   case done =>
    rintro D xs V hD hS ⟨⟨h1,h2⟩,h3⟩ hK9
    exfalso
    have hm9:=List.mem_of_find?_eq_some HN1.out
    exact h3 nx (by rw[hS];exact hm9) HN3.out
   case stop =>
    rintro D cde pre V hD ⟨kk,hS⟩ ⟨⟨h1,h2⟩,rfl,p,x,rfl,hx1,hx2⟩ hK9
    have hxn:x.1=nx:=by
     have hl2:p.map Fin.val++(x.1::(jm fV gK cu).drop kk)=jm fV gK cu:=by
      have hl:=List.take_append_drop kk (jm fV gK cu)
      rw[<-hS,List.map_append,List.append_assoc] at hl
      exact hl
     have hfd:=HN1.out
     rw[<-hl2,List.find?_append,List.find?_eq_none.2 (fun d hd=>by simpa using hx2 d hd),Option.none_or,List.find?_cons_of_pos (by rw[hx1];simp)] at hfd
     injection hfd
    rw[afD.out,hxn] at h1
    subst ha2
    have t0:=ag h1.cell 0
    have lt0:=au h1.cell
    have WE:Marks w.heap.size (D::Ds) V:=⟨List.nodup_cons.2 ⟨fun h=>by have:=au (Zd.op D h).2;omega,h2.nd⟩,fun D' h=>by
     rcases List.mem_cons.1 h with rfl|h
     ·exact⟨by have:=XZ.out;omega,hK9⟩
     ·exact h2.op D' h⟩
    have H1:=hide h1
    have HM6:=hide WE
    have hLV:=au h1.lb
    have ajq:(oZ o fV gK fr j).length<=100000:=by unfold oZ;rw[List.length_map,List.length_range];have:=hvb.2;omega
    clear h1 h2 hK9 WE hx1 hx2 hS hxn
    gi_wp2_with (gi_at_builtin;refine kH.stop ?_)
    refine kH.go ?_
    refine xP rfl (.tmp 88) (.tmp 90) rfl (L+1) _ (oZ o fV gK fr j) rfl (H1.out.oz.grew gw) V.heap.size nx rfl (ag (heap_alloc_new V _) 0) (by omega) (by simp;omega) ?_
    intro v' w6 hown' hgrow aep
    obtain⟨A6,c6,rfl,_⟩:=hown'.slice
    have hlen:(oZ o fV gK fr j++[(nx:Int)]).length=j+1+1:=by unfold oZ;simp
    rw[hlen] at hown' aep ⊢
    have hgv:Grew V (V.alloc (.cells #[.int .i64 (nx:Int)] 3)):=gw
    have aem:=H1.out.oz.grew hgv
    have keep:∀b,b<V.heap.size->(Value.slice Ao mo co).ownBlock≠some b->w6.heap[b]?=V.heap[b]?:=fun b hb hne=>(hgrow.block b (by simp;omega) hne.symm).trans (heap_alloc_old _ _ hb)
    have hnb:∀b,b<L+1->(Value.slice Ao mo co).ownBlock≠some b:=fun b hb e=>by have:=(World.ownsRow.lt H1.out.oz b e).1;omega
    have Oj:=(keep Cb lt0 HOB.out).trans H1.out.cell
    have t6:=ag Oj 0
    have lt6:=au Oj
    have hG6:Grew w w6:=OZ.grown ((Grew.of_below H1.out.below).trans hgv) aem (by omega) hgrow
    have aeG:=(keep w.heap.size (au H1.out.gb) (hnb _ (by omega))).trans H1.out.gb
    have ace:=(keep L hLV (hnb _ (by omega))).trans H1.out.lb
    have aa0:nC w6 w.heap.size g n o:=⟨H1.out.row.1,World.ownsRow.kept (H1.out.row.grew hgv).2 hgrow (.inr fun e=>hnb g (by omega) e.symm)⟩
    have aet:Marks w.heap.size (D::Ds) w6:=⟨HM6.out.nd,fun D' h=>⟨(HM6.out.op D' h).1,(keep D' (au (HM6.out.op D' h).2) (H1.out.oz.nb (HM6.out.op D' h).2)).trans (HM6.out.op D' h).2⟩⟩
    have hnew:(Value.slice A6 (j+1+1) c6).ownBlock≠some w6.heap.size:=fun e=>by have:=(World.ownsRow.lt hown' _ e).2;omega
    have agR:L<w6.heap.size:=au ace
    have hoj:oZ o fV gK fr (j+1)=oZ o fV gK fr j++[(nx:Int)]:=by rw[NM,Ht.out]
    have X4:=hide hG6
    have afy:=hide aeG
    have aft:=hide ace
    have afo:=hide aa0
    have HM7:=hide aet
    have aht:=hide hnew
    have HOWN:=hide hown'
    have HOJ:=hide hoj
    clear hgv aem keep hnb Oj hG6 aeG ace aa0 aet hnew hown' hgrow aep hoj t0 lt0 hlen
    gi_wp2_with fail
    have KW:Grew w6 (w6.alloc (.cells #[.int .i64 (nx:Int)] 3)):=gw
    refine⟨vl.toNat-(j+1),by omega,j+1,A6,j+1+1,c6,w6.heap.size,D::Ds,hjl,rfl,rfl,PF.of rfl,⟨X4.out.below.trans (KW.below.mono X4.out.below.size),(KW.heap (au afy.out)).trans afy.out,(KW.heap (au aft.out)).trans aft.out,afo.out.grew KW,?_,?_⟩,agR,aht.out,HM7.out.grew KW⟩
    ·rw[HOJ.out]
     exact HOWN.out.grew KW
    ·rw[Ht.out]
     exact heap_alloc_new _ _
 all_goals
  gi_wp2_with fail
  refine⟨.tuple #[.slice none 0 0,.int .i64 4],by simp[results,Tryz.results11,go_sem],?_⟩
  refine⟨k,o,by rw[HNE.out];exact HQI.out,HGW.out,.inl ⟨?_,rfl⟩⟩
  rw[HVF.out,HVT.out,HVL.out]
  omega
end Go.Proofs.YtlkgjmnjhifehaaGreat
