/- Package rule: isRule at the rules of one kind. Package rule: Valid, Cap. The reference implementation of layer 12: kinds, numbers, valid rules, the cap. -/
import Derived.Test.YtlkgjmnjhifehaaGreatRuX
set_option linter.unusedSimpArgs false
set_option linter.unusedVariables false
set_option maxHeartbeats 1600000
set_option maxRecDepth 100000
namespace Go.Proofs.YtlkgjmnjhifehaaGreat
open Go.RowKit Go.Sort
attribute [local go_sem] dA steadyUpon
attribute [local go_sem ↓] bU bI aX aW aV aU aT
attribute [local go_sem] bH aK aJ size_grow tape_grow cell?_grow' aF aB grow_grow bW aY dR cO bY bK aN cZ aZ bZ bJ
attribute [local irreducible] wpSteady
abbrev Ru:=Int×Int×Int
def encR (r:Ru):List Value:=[.int .i64 r.1,.int .i64 r.2.1,.int .i64 r.2.2]
theorem Ll (r:Ru):(encR r).length=3:=rfl
def Ru.ok (r:Ru):Bool:=iD r.1 r.2.1 r.2.2
def tZ (rs:List Ru)(k:Nat):Ru:=rs.getD k (0,0,0)
theorem yQ {rs:List Ru}{k:Nat}(h:k<rs.length):rs[k]?=some (tZ rs k):=by
 unfold tZ
 rw[List.getD_eq_getElem?_getD,List.getElem?_eq_getElem h]
 rfl
theorem Ih {w:World}{B:Nat}{A:Option Addr}{rs:List Ru}{k:Nat}(h:Rd w B 3 A (rs.map encR))(hk:k<rs.length) :
  ∃b off,Hid (A=some ⟨b,off,none⟩)/\b<B/\w.cell? ⟨b,off+k*3,none⟩=some (.int .i64 (tZ rs k).1)/\w.cell? ⟨b,off+k*3+1,none⟩=some (.int .i64 (tZ rs k).2.1)/\w.cell? ⟨b,off+k*3+2,none⟩=some (.int .i64 (tZ rs k).2.2):=by
 obtain⟨b,off,hA,hb,hc⟩:=h.at_ (k:=k) (x:=encR (tZ rs k)) (by simp[yQ hk])
 exact⟨b,off,hA,hb,hc 0 _ rfl,hc 1 _ rfl,hc 2 _ rfl⟩
def Ba (rs:List Ru)(k:Nat):Bool:=(List.range k).all fun j=>(tZ rs j).ok
def oN (rs:List Ru):Bool:=decide (rs.length<=40)&&Ba rs rs.length
theorem RH {rs:List Ru}{k:Nat}(h:Ba rs k=true):Ba rs (k+1)=(tZ rs k).ok:=by
 unfold Ba at h ⊢
 rw[List.range_succ,List.all_append,h]
 simp
theorem YT {rs:List Ru}{k n:Nat}(hk:k<n)(h:(tZ rs k).ok=false):Ba rs n=false:=by
 unfold Ba
 rw[List.all_eq_false]
 exact⟨k,List.mem_range.2 hk,by rw[h];simp⟩
def ag6 (n:Nat)(r:Bool)(e:Ending):Prop:=(e=.returned (.int .i64 (-1))/\r=true)\/(∃k:Nat,k<n/\e=.returned (.int .i64 k)/\r=false)
theorem abM (o k n:Int)(r:Bool)(w:World)(h:iD o k n = !r):Calls Tryz.prog 73 #[PE o k n] w (aC w (.bool r)):=by
 have k1:=hide (fun W=>qx o k n (!r) W h)
 clear h
 cases r
 all_goals
  go_enter Tryz.func73,Tryz.ntmps73
  go_wp2_with (go_at_call 74;with_reducible refine aQ (k1.out _) fun _ _=>?_;dsimp only)
  go_ret
  exact aC.mk' (by rfl) gw
theorem abJ (rs:List Ru)(A:Option Addr)(c:Nat)(r:Bool)(w:World)(hr:Rd w w.heap.size 3 A (rs.map encR))(hc:rs.length<=100000000000000)(h:Ba rs rs.length=r) :
  Calls Tryz.prog 100 #[.slice A rs.length c,.func (.func 73) #[] #[]] w fun e w'=>ag6 rs.length r e/\Grew w w':=by
 have hm:=aP
 have HR:=hide h
 clear h
 go_enter Tryz.func100,Tryz.ntmps100
 go_wp2_with fail
 go_loopw [8] (fun i wr=>∃k:Nat,k<=rs.length/\i=.int .i64 k/\Grew w wr/\wW (Ba rs k=true)) (fun i _=>rs.length-(intOf i).toNat)
 case atStart=>exact⟨0,by omega,rfl,gw,rfl⟩
 case round =>
  obtain⟨k,hk,rfl,hg,hall⟩:=hrel
  have HG:=hide hg
  have HA:=hide hall.stop
  clear hg hall
  by_cases hlt:k<rs.length
  ·obtain⟨b,off,hA,hb,h0,h1,h2⟩:=Ih (hr.up HG.out) hlt
   have hix:=aO (cap:=c) Tryz.underlying26 Tryz.sizeOf71 hA.out hlt
   have hs:=RH HA.out
   have HS:=hide hs
   obtain⟨u,hu⟩:∃u,(tZ rs k).ok = !u:=⟨!(tZ rs k).ok,by simp⟩
   have k1:=hide (fun W=>abM (tZ rs k).1 (tZ rs k).2.1 (tZ rs k).2.2 u W hu)
   have HO:=hide hu
   clear hs hu hA
   obtain⟨x,hx⟩:∃x,tZ rs k=x:=⟨_,rfl⟩
   rw[hx] at h0 h1 h2 k1
   clear hx
   obtain⟨x1,x2,x3⟩:=x
   dsimp only at h0 h1 h2 k1
   cases u
   ·go_wp2_with (go_at_call 73;with_reducible refine aQ (k1.out _) fun _ _=>?_;dsimp only)
    go_roundw
    case rel=>exact⟨k+1,by omega,by go_num,HG.out.trans gw,by rw[HS.out];exact HO.out⟩
    case measure=>simp[intOf];omega
   ·go_wp2_with (go_at_call 73;with_reducible refine aQ (k1.out _) fun _ _=>?_;dsimp only)
    go_ret
    have e:Ba rs rs.length=false:=YT hlt HO.out
    obtain rfl:r=false:=by rw[<-HR.out,e]
    exact⟨.inr ⟨k,by omega,rfl,rfl⟩,HG.out.trans gw⟩
  ·obtain rfl:k=rs.length:=by omega
   obtain rfl:r=true:=by rw[<-HR.out,HA.out]
   go_wp2_with fail
   go_ret
   exact⟨.inl ⟨rfl,rfl⟩,HG.out⟩
theorem abK (rs:List Ru)(A:Option Addr)(c:Nat)(r:Bool)(w:World)(hr:Rd w w.heap.size 3 A (rs.map encR))(hc:rs.length<=100000000000000)(h:Ba rs rs.length = !r) :
  Calls Tryz.prog 75 #[.slice A rs.length c,.func (.func 73) #[] #[]] w (aC w (.bool r)):=by
 have hm:=aP
 have k1:=hide (fun W (hg:Grew w W)=>abJ rs A c (!r) W (hr.up hg) hc h)
 clear h
 go_enter Tryz.func75,Tryz.ntmps75
 go_wp2_with fail
 refine (k1.out _ gw).mono ?_
 rintro e w' ⟨h,⟨⟨n1,os1⟩,rfl⟩⟩
 rcases h with⟨rfl,hr2⟩|⟨k,hk,rfl,hr2⟩
 ·obtain rfl:r=false:=by simpa using hr2
  dsimp only
  go_wp2_with fail
  go_ret
  exact aC.mk' rfl gw
 ·obtain rfl:r=true:=by simpa using hr2
  dsimp only
  have hk0:0<=(k:Int):=by omega
  go_wp2_with fail
  go_ret
  exact aC.mk' (by simp) gw
theorem Hr (rs:List Ru)(A:Option Addr)(c:Nat)(r:Bool)(w:World)(hr:Rd w w.heap.size 3 A (rs.map encR))(hc:rs.length<=100000000000000)(h:oN rs=r) :
  Calls Tryz.prog 35 #[.slice A rs.length c] w (aC w (.bool r)):=by
 have hm:=aP
 obtain⟨u,hu⟩:∃u,Ba rs rs.length = !u:=⟨!Ba rs rs.length,by simp⟩
 have k1:=hide (fun W (hg:Grew w W)=>abK rs A c u W (hr.up hg) hc hu)
 unfold oN at h
 rw[hu] at h
 clear hu hr
 by_cases hl:rs.length<=40
 ·have hl2:(rs.length:Int)<=40:=by omega
  rw[decide_eq_true hl,Bool.true_and] at h
  subst h
  cases u
  all_goals
   go_enter Tryz.func35,Tryz.ntmps35
   go_wp2_with (go_at_call 75;with_reducible refine aQ (k1.out _ gw) fun _ _=>?_;dsimp only)
   go_ret
   exact aC.mk' (by rfl) gw
 ·have hl2:¬ (rs.length:Int)<=40:=by omega
  have hl3:decide ((rs.length:Int)<=40)=false:=decide_eq_false hl2
  rw[decide_eq_false hl,Bool.false_and] at h
  subst h
  go_enter Tryz.func35,Tryz.ntmps35
  go_wp2_with fail
  go_ret
  exact aC.mk' (by rfl) gw
def xG (m:Int)(r:Ru):Int:=if r.1=1 then min m r.2.2 else m
def EX (rs:List Ru)(k:Nat):Int:=(rs.take k).foldl xG 100000
def capOf (rs:List Ru):Int×Int:=if oN rs=true then (EX rs rs.length,0) else (0,1)
theorem OJ {rs:List Ru}{k:Nat}(h:k<rs.length):EX rs (k+1)=xG (EX rs k) (tZ rs k):=by
 unfold EX
 rw[List.take_add_one,yQ h,List.foldl_append]
 rfl
theorem JA (rs:List Ru)(A:Option Addr)(c:Nat)(r:Int×Int)(w:World)(hr:Rd w w.heap.size 3 A (rs.map encR))(hc:rs.length<=100000000000000)(h:capOf rs=r) :
  Calls Tryz.prog 9 #[.slice A rs.length c] w (aC w (.tuple #[.int .i64 r.1,.int .i64 r.2])):=by
 have hm:=aP
 obtain⟨u,hu⟩:∃u,oN rs=u:=⟨_,rfl⟩
 have k1:=hide (fun W (hg:Grew w W)=>Hr rs A c u W (hr.up hg) hc hu)
 unfold capOf at h
 rw[hu] at h
 have HR:=hide hr
 clear hu hr
 cases u
 ·rw[if_neg (by simp)] at h
  subst h
  go_enter Tryz.func9,Tryz.ntmps9
  go_wp2_with (go_at_call 35;with_reducible refine aQ (k1.out _ gw) fun _ _=>?_;dsimp only)
  go_ret2
  exact aC.mk' rfl gw
 ·rw[if_pos rfl] at h
  subst h
  go_enter Tryz.func9,Tryz.ntmps9
  go_wp2_with (go_at_call 35;with_reducible refine aQ (k1.out _ gw) fun _ _=>?_;dsimp only)
  clear k1
  go_loopw [4,12] (fun m i wr=>∃k:Nat,k<=rs.length/\i=.int .i64 k/\m=.int .i64 (EX rs k)/\Grew w wr) (fun _ i _=>rs.length-(intOf i).toNat)
  case atStart=>exact⟨0,by omega,rfl,rfl,gw⟩
  case round =>
   obtain⟨k,hk,rfl,rfl,hg⟩:=hrel
   have HG:=hide hg
   clear hg
   by_cases hlt:k<rs.length
   ·obtain⟨b,off,hA,hb,h0,h1,h2⟩:=Ih (HR.out.up HG.out) hlt
    have hix:=aO (cap:=c) Tryz.underlying26 Tryz.sizeOf71 hA.out hlt
    have hst:=OJ hlt
    unfold xG at hst
    obtain⟨m,hm2⟩:∃m,EX rs k=m:=⟨_,rfl⟩
    obtain⟨x,hx⟩:∃x,tZ rs k=x:=⟨_,rfl⟩
    rw[hm2,hx] at hst
    rw[hx] at h0 h1 h2
    rw[hm2]
    clear hx hm2 hA
    obtain⟨x1,x2,x3⟩:=x
    dsimp only at h0 h1 h2 hst
    have HST:=hide hst
    clear hst
    by_cases h1':x1=1
    ·subst h1'
     go_wp2_with fail
     all_goals go_roundw
     all_goals first|(case rel=>exact⟨k+1,by omega,by go_num,by rw[HST.out,if_pos rfl];try exact l9 (by omega),HG.out.trans gw⟩)|(case measure=>simp[intOf];omega)
    ·go_wp2_with fail
     go_roundw
     case rel=>exact⟨k+1,by omega,by go_num,by rw[HST.out,if_neg h1'],HG.out.trans gw⟩
     case measure=>simp[intOf];omega
   ·obtain rfl:k=rs.length:=by omega
    go_wp2_with fail
    go_ret2
    exact aC.mk' rfl HG.out
end Go.Proofs.YtlkgjmnjhifehaaGreat
