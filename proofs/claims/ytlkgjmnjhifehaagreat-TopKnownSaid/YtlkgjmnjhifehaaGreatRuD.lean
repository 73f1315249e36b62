/- Package rule: isRule at the rules of one kind. Package rule: Valid, Cap. The reference implementation of layer 12: kinds, numbers, valid rules, the cap. -/
import Derived.Test.YtlkgjmnjhifehaaGreatRuX
set_option linter.unusedSimpArgs false
set_option linter.unusedVariables false
set_option maxHeartbeats 1600000
set_option maxRecDepth 100000
namespace Go.Proofs.YtlkgjmnjhifehaaGreat
open Go.RowKit Go.Sort
attribute [local go_sem] dC steadyUpon
attribute [local go_sem ↓] bQ bJ bg aZ aY aX aW
attribute [local go_sem] bH aN aK size_grow tape_grow cell?_grow' aF aC grow_grow bV bn dZ bZ bW bM aO cO bu bY bK
attribute [local irreducible] wpSteady
abbrev Ru:=Int×Int×Int
def encR (r:Ru):List Value:=[.int .i64 r.1,.int .i64 r.2.1,.int .i64 r.2.2]
theorem Ls (r:Ru):(encR r).length=3:=rfl
def Ru.ok (r:Ru):Bool:=ig r.1 r.2.1 r.2.2
def tC (rs:List Ru)(k:Nat):Ru:=rs.getD k (0,0,0)
theorem yF {rs:List Ru}{k:Nat}(h:k<rs.length):rs[k]?=some (tC rs k):=by
 unfold tC
 rw[List.getD_eq_getElem?_getD,List.getElem?_eq_getElem h]
 rfl
theorem H5 {w:World}{B:Nat}{A:Option Addr}{rs:List Ru}{k:Nat}(h:Rd w B 3 A (rs.map encR))(hk:k<rs.length) :
  ∃b off,Hid (A=some ⟨b,off,none⟩)/\b<B/\w.cell? ⟨b,off+k*3,none⟩=some (.int .i64 (tC rs k).1)/\w.cell? ⟨b,off+k*3+1,none⟩=some (.int .i64 (tC rs k).2.1)/\w.cell? ⟨b,off+k*3+2,none⟩=some (.int .i64 (tC rs k).2.2):=by
 obtain⟨b,off,hA,hb,hc⟩:=h.at_ (k:=k) (x:=encR (tC rs k)) (by simp[yF hk])
 exact⟨b,off,hA,hb,hc 0 _ rfl,hc 1 _ rfl,hc 2 _ rfl⟩
def Az (rs:List Ru)(k:Nat):Bool:=(List.range k).all fun j=>(tC rs j).ok
def oM (rs:List Ru):Bool:=decide (rs.length<=40)&&Az rs rs.length
theorem Rj {rs:List Ru}{k:Nat}(h:Az rs k=true):Az rs (k+1)=(tC rs k).ok:=by
 unfold Az at h ⊢
 rw[List.range_succ,List.all_append,h]
 simp
theorem Yz {rs:List Ru}{k n:Nat}(hk:k<n)(h:(tC rs k).ok=false):Az rs n=false:=by
 unfold Az
 rw[List.all_eq_false]
 exact⟨k,List.mem_range.2 hk,by rw[h];simp⟩
def agG (n:Nat)(r:Bool)(e:Ending):Prop:=(e=.returned (.int .i64 (-1))/\r=true)\/(∃k:Nat,k<n/\e=.returned (.int .i64 k)/\r=false)
theorem abu (o k n:Int)(r:Bool)(w:World)(h:ig o k n = !r):Calls Tryz.prog 73 #[Pj o k n] w (aB w (.bool r)):=by
 have k1:=hide (fun W=>qo o k n (!r) W h)
 clear h
 cases r
 all_goals
  go_enter Tryz.func73,Tryz.ntmps73
  go_wp2_with (go_at_call 74;with_reducible refine aT (k1.out _) fun _ _=>?_;dsimp only)
  go_ret
  exact aB.mk' (by rfl) gw
theorem abr (rs:List Ru)(A:Option Addr)(c:Nat)(r:Bool)(w:World)(hr:Rd w w.heap.size 3 A (rs.map encR))(hc:rs.length<=100000000000000)(h:Az rs rs.length=r) :
  Calls Tryz.prog 100 #[.slice A rs.length c,.func (.func 73) #[] #[]] w fun e w'=>agG rs.length r e/\Grew w w':=by
 have hm:=aQ
 have HR:=hide h
 clear h
 go_enter Tryz.func100,Tryz.ntmps100
 go_wp2_with fail
 go_loopw [8] (fun i wr=>∃k:Nat,k<=rs.length/\i=.int .i64 k/\Grew w wr/\uN (Az rs k=true)) (fun i _=>rs.length-(intOf i).toNat)
 case atStart=>exact⟨0,by omega,rfl,gw,rfl⟩
 case round =>
  obtain⟨k,hk,rfl,hg,hall⟩:=hrel
  have HG:=hide hg
  have HA:=hide hall.stop
  clear hg hall
  by_cases hlt:k<rs.length
  ·obtain⟨b,off,hA,hb,h0,h1,h2⟩:=H5 (hr.up HG.out) hlt
   have hix:=aJ (cap:=c) Tryz.underlying26 Tryz.sizeOf71 hA.out hlt
   have hs:=Rj HA.out
   have HS:=hide hs
   obtain⟨u,hu⟩:∃u,(tC rs k).ok = !u:=⟨!(tC rs k).ok,by simp⟩
   have k1:=hide (fun W=>abu (tC rs k).1 (tC rs k).2.1 (tC rs k).2.2 u W hu)
   have HO:=hide hu
   clear hs hu hA
   obtain⟨x,hx⟩:∃x,tC rs k=x:=⟨_,rfl⟩
   rw[hx] at h0 h1 h2 k1
   clear hx
   obtain⟨x1,x2,x3⟩:=x
   dsimp only at h0 h1 h2 k1
   cases u
   ·go_wp2_with (go_at_call 73;with_reducible refine aT (k1.out _) fun _ _=>?_;dsimp only)
    go_roundw
    case rel=>exact⟨k+1,by omega,by go_num,HG.out.trans gw,by rw[HS.out];exact HO.out⟩
    case measure=>simp[intOf];omega
   ·go_wp2_with (go_at_call 73;with_reducible refine aT (k1.out _) fun _ _=>?_;dsimp only)
    go_ret
    have e:Az rs rs.length=false:=Yz hlt HO.out
    obtain rfl:r=false:=by rw[<-HR.out,e]
    exact⟨.inr ⟨k,by omega,rfl,rfl⟩,HG.out.trans gw⟩
  ·obtain rfl:k=rs.length:=by omega
   obtain rfl:r=true:=by rw[<-HR.out,HA.out]
   go_wp2_with fail
   go_ret
   exact⟨.inl ⟨rfl,rfl⟩,HG.out⟩
theorem abt (rs:List Ru)(A:Option Addr)(c:Nat)(r:Bool)(w:World)(hr:Rd w w.heap.size 3 A (rs.map encR))(hc:rs.length<=100000000000000)(h:Az rs rs.length = !r) :
  Calls Tryz.prog 75 #[.slice A rs.length c,.func (.func 73) #[] #[]] w (aB w (.bool r)):=by
 have hm:=aQ
 have k1:=hide (fun W (hg:Grew w W)=>abr rs A c (!r) W (hr.up hg) hc h)
 clear h
 go_enter Tryz.func75,Tryz.ntmps75
 go_wp2_with fail
 refine (k1.out _ gw).mono ?_
 rintro e w' ⟨h,⟨⟨n1,os1⟩,rfl⟩⟩
 rcases h with⟨rfl,hr2⟩|⟨k,hk,rfl,hr2⟩
 ·obtain rfl:r=false:=by simpa using hr2
  dsimp only
  go_wp2_with fail
  go_ret
  exact aB.mk' rfl gw
 ·obtain rfl:r=true:=by simpa using hr2
  dsimp only
  have hk0:0<=(k:Int):=by omega
  go_wp2_with fail
  go_ret
  exact aB.mk' (by simp) gw
theorem G5 (rs:List Ru)(A:Option Addr)(c:Nat)(r:Bool)(w:World)(hr:Rd w w.heap.size 3 A (rs.map encR))(hc:rs.length<=100000000000000)(h:oM rs=r) :
  Calls Tryz.prog 35 #[.slice A rs.length c] w (aB w (.bool r)):=by
 have hm:=aQ
 obtain⟨u,hu⟩:∃u,Az rs rs.length = !u:=⟨!Az rs rs.length,by simp⟩
 have k1:=hide (fun W (hg:Grew w W)=>abt rs A c u W (hr.up hg) hc hu)
 unfold oM at h
 rw[hu] at h
 clear hu hr
 by_cases hl:rs.length<=40
 ·have hl2:(rs.length:Int)<=40:=by omega
  rw[decide_eq_true hl,Bool.true_and] at h
  subst h
  cases u
  all_goals
   go_enter Tryz.func35,Tryz.ntmps35
   go_wp2_with (go_at_call 75;with_reducible refine aT (k1.out _ gw) fun _ _=>?_;dsimp only)
   go_ret
   exact aB.mk' (by rfl) gw
 ·have hl2:¬ (rs.length:Int)<=40:=by omega
  have hl3:decide ((rs.length:Int)<=40)=false:=decide_eq_false hl2
  rw[decide_eq_false hl,Bool.false_and] at h
  subst h
  go_enter Tryz.func35,Tryz.ntmps35
  go_wp2_with fail
  go_ret
  exact aB.mk' (by rfl) gw
def xg (m:Int)(r:Ru):Int:=if r.1=1 then min m r.2.2 else m
def EN (rs:List Ru)(k:Nat):Int:=(rs.take k).foldl xg 100000
def capOf (rs:List Ru):Int×Int:=if oM rs=true then (EN rs rs.length,0) else (0,1)
theorem Oz {rs:List Ru}{k:Nat}(h:k<rs.length):EN rs (k+1)=xg (EN rs k) (tC rs k):=by
 unfold EN
 rw[List.take_add_one,yF h,List.foldl_append]
 rfl
theorem Jv (rs:List Ru)(A:Option Addr)(c:Nat)(r:Int×Int)(w:World)(hr:Rd w w.heap.size 3 A (rs.map encR))(hc:rs.length<=100000000000000)(h:capOf rs=r) :
  Calls Tryz.prog 9 #[.slice A rs.length c] w (aB w (.tuple #[.int .i64 r.1,.int .i64 r.2])):=by
 have hm:=aQ
 obtain⟨u,hu⟩:∃u,oM rs=u:=⟨_,rfl⟩
 have k1:=hide (fun W (hg:Grew w W)=>G5 rs A c u W (hr.up hg) hc hu)
 unfold capOf at h
 rw[hu] at h
 have HR:=hide hr
 clear hu hr
 cases u
 ·rw[if_neg (by simp)] at h
  subst h
  go_enter Tryz.func9,Tryz.ntmps9
  go_wp2_with (go_at_call 35;with_reducible refine aT (k1.out _ gw) fun _ _=>?_;dsimp only)
  go_ret2
  exact aB.mk' rfl gw
 ·rw[if_pos rfl] at h
  subst h
  go_enter Tryz.func9,Tryz.ntmps9
  go_wp2_with (go_at_call 35;with_reducible refine aT (k1.out _ gw) fun _ _=>?_;dsimp only)
  clear k1
  go_loopw [4,12] (fun m i wr=>∃k:Nat,k<=rs.length/\i=.int .i64 k/\m=.int .i64 (EN rs k)/\Grew w wr) (fun _ i _=>rs.length-(intOf i).toNat)
  case atStart=>exact⟨0,by omega,rfl,rfl,gw⟩
  case round =>
   obtain⟨k,hk,rfl,rfl,hg⟩:=hrel
   have HG:=hide hg
   clear hg
   by_cases hlt:k<rs.length
   ·obtain⟨b,off,hA,hb,h0,h1,h2⟩:=H5 (HR.out.up HG.out) hlt
    have hix:=aJ (cap:=c) Tryz.underlying26 Tryz.sizeOf71 hA.out hlt
    have hst:=Oz hlt
    unfold xg at hst
    obtain⟨m,hm2⟩:∃m,EN rs k=m:=⟨_,rfl⟩
    obtain⟨x,hx⟩:∃x,tC rs k=x:=⟨_,rfl⟩
    rw[hm2,hx] at hst
    rw[hx] at h0 h1 h2
    rw[hm2]
    clear hx hm2 hA
    obtain⟨x1,x2,x3⟩:=x
    dsimp only at h0 h1 h2 hst
    have HST:=hide hst
    clear hst
    by_cases h1':x1=1
    ·subst h1'
     go_wp2_with fail
     all_goals go_roundw
     all_goals first|(case rel=>exact⟨k+1,by omega,by go_num,by rw[HST.out,if_pos rfl];try exact lU (by omega),HG.out.trans gw⟩)|(case measure=>simp[intOf];omega)
    ·go_wp2_with fail
     go_roundw
     case rel=>exact⟨k+1,by omega,by go_num,by rw[HST.out,if_neg h1'],HG.out.trans gw⟩
     case measure=>simp[intOf];omega
   ·obtain rfl:k=rs.length:=by omega
    go_wp2_with fail
    go_ret2
    exact aB.mk' rfl HG.out
end Go.Proofs.YtlkgjmnjhifehaaGreat
