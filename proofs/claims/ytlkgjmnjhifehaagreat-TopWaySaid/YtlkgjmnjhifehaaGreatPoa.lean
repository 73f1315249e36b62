/- Package poly: the order of places, corners, ContainsFunc. ContainsFunc; corners. Package poly: corners and the iterator over edges. -/
import Derived.Test.YtlkgjmnjhifehaaGreatPla
import Derived.Test.YtlkgjmnjhifehaaGreatItX
set_option linter.unusedSimpArgs false
set_option linter.unusedVariables false
set_option maxHeartbeats 2000000
set_option maxRecDepth 100000
namespace Go.Proofs.YtlkgjmnjhifehaaGreat
open Go.RowKit Go.Sort
attribute [local go_sem] dA steadyUpon
attribute [local go_sem ↓] bU bI aX aW aV aU aT
attribute [local go_sem] bH aK aJ size_grow tape_grow cell?_grow' aF aB grow_grow bW aY dR cO bY bK aN cZ aZ bZ bJ
attribute [local irreducible] wpSteady
def OrR (x y:Int)(k:Nat):Prop:=(0<k->x=0)/\(1<k->y=0)
theorem uU (x y r:Int)(b:Nat)(w:World)(hr:(x≠0/\r=x)\/(x=0/\r=y))(h0:w.cell? ⟨b,0,none⟩=some (.int .i64 x))(h1:w.cell? ⟨b,1,none⟩=some (.int .i64 y))(hb:b<w.heap.size) :
  Calls Tryz.prog 91 #[.slice (some ⟨b,0,none⟩) 2 2] w (aC w (.int .i64 r)):=by
 have hm:=aP
 have HR:=hide hr
 clear hr
 have hix0:=aO (cap:=2) (len:=2) (k:=0) Tryz.underlying39 Tryz.sizeOf3 (rfl:some (⟨b,0,none⟩:Addr)=some ⟨b,0,none⟩) (by omega)
 have hix1:=aO (cap:=2) (len:=2) (k:=1) Tryz.underlying39 Tryz.sizeOf3 (rfl:some (⟨b,0,none⟩:Addr)=some ⟨b,0,none⟩) (by omega)
 simp only[Nat.zero_add,Nat.mul_one,Int.cast_ofNat_Int] at hix0 hix1
 go_enter Tryz.func91,Tryz.ntmps91
 go_wp2_with fail
 go_loopw [8] (fun i wr=>∃k:Nat,k<=2/\i=.int .i64 k/\Grew w wr/\OrR x y k) (fun i _=>2-(intOf i).toNat)
 case atStart=>exact⟨0,by omega,rfl,gw,(fun h=>absurd h (by omega)),(fun h=>absurd h (by omega))⟩
 case round =>
  obtain⟨k,hk,rfl,hg,hx,hy⟩:=hrel
  have HG:=hide hg
  have g0:=(hg.below.cell (p:=⟨b,0,none⟩) hb).trans h0
  have g1:=(hg.below.cell (p:=⟨b,1,none⟩) hb).trans h1
  clear h0 h1 hg
  have hbr:b<wr.heap.size:=Nat.lt_of_lt_of_le hb HG.out.below.size
  have hk3:k=0\/k=1\/k=2:=by omega
  rcases hk3 with rfl|rfl|rfl
  ·clear hx hy
   by_cases hx0:x=0
   ·subst hx0
    go_wp2_with fail
    go_roundw
    case rel=>exact⟨1,by omega,rfl,HG.out,(fun _=>rfl),(fun h=>absurd h (by omega))⟩
    case measure=>simp[intOf]
   ·have hrx:r=x:=by have:=HR.out;omega
    clear HR
    subst hrx
    have hx1:(r != 0)=true:=by simpa using hx0
    go_wp2_with fail
    go_ret
    exact aC.mk' rfl HG.out
  ·obtain rfl:=hx (by omega)
   clear hx hy
   have hry:r=y:=by have:=HR.out;omega
   clear HR
   subst hry
   by_cases hy0:r=0
   ·subst hy0
    go_wp2_with fail
    go_roundw
    case rel=>exact⟨2,by omega,rfl,HG.out,(fun _=>rfl),(fun _=>rfl)⟩
    case measure=>simp[intOf]
   ·have hy1:(r != 0)=true:=by simpa using hy0
    go_wp2_with fail
    go_ret
    exact aC.mk' rfl HG.out
  ·obtain rfl:=hx (by omega)
   obtain rfl:=hy (by omega)
   obtain rfl:r=0:=by have:=HR.out;omega
   clear hx hy HR
   go_wp2_with fail
   go_ret
   exact aC.mk' rfl HG.out
def ord (a b:Pt):Int:=if sg (a.1-b.1)=0 then sg (a.2-b.2) else sg (a.1-b.1)
theorem AX (a b:Pt)(w:World) :
  Calls Tryz.prog 108 #[pt a.1 a.2,pt b.1 b.2] w (aC w (.int .i64 (ord a b))):=by
 have hm:=aP
 obtain⟨r,hr⟩:∃r,ord a b=r:=⟨_,rfl⟩
 rw[hr]
 have hr2:(sg (a.1-b.1)≠0/\r=sg (a.1-b.1))\/(sg (a.1-b.1)=0/\r=sg (a.2-b.2)):=by
  rw[<-hr]
  unfold ord
  split
  ·exact .inr ⟨by assumption,rfl⟩
  ·exact .inl ⟨by assumption,rfl⟩
 clear hr
 have k1:=hide (fun W=>ik a.1 b.1 W)
 have k2:=hide (fun W=>ik a.2 b.2 W)
 generalize sg (a.1-b.1)=x at *
 generalize sg (a.2-b.2)=y at *
 have HR:=hide hr2
 obtain⟨a1,a2⟩:=a
 obtain⟨b1,b2⟩:=b
 clear hr2
 go_enter Tryz.func108,Tryz.ntmps108
 go_wp2_with fail
 refine ay 10 [] [] hm (h:=?_)
 repeat (refine ax (fun K hK=>?_);go_simp;first|(refine hK _ ?_;clear hK K)|(apply Exists.intro;refine⟨fun _=>?_,hK _ ?_⟩;(go_at_call 65;first|with_reducible exact k1.out _|with_reducible exact k2.out _);clear hK K))
 refine lU fun nq osq=>?_
 try simp only[Act.put,aG]
 try dsimp only
 go_wp2_with fail
 refine (uU x y r _ _ HR.out (by go_simp) (by go_simp) (by go_simp)).mono ?_
 rintro e w' ⟨rfl,⟨_,_⟩,rfl⟩
 dsimp only
 go_wp2_with fail
 go_ret
 exact aC.mk' rfl gw
def afi (n:Nat)(r:Bool)(e:Ending):Prop:=(e=.returned (.int .i64 (-1))/\r=true)\/(∃k:Nat,k<n/\e=.returned (.int .i64 k)/\r=false)
theorem abw (p:Pt)(r:Bool)(w:World)(h:p.ok = !r):Calls Tryz.prog 106 #[pt p.1 p.2] w (aC w (.bool r)):=by
 have k1:=hide (fun W=>dP p.1 p.2 (!r) W h)
 obtain⟨p1,p2⟩:=p
 clear h
 cases r
 all_goals
  go_enter Tryz.func106,Tryz.ntmps106
  go_wp2_with (go_at_call 49;with_reducible refine aQ (k1.out _) fun _ _=>?_;dsimp only)
  go_ret
  exact aC.mk' (by rfl) gw
theorem abv (ps:List Pt)(A:Option Addr)(c:Nat)(r:Bool)(w:World)(hr:Rd w w.heap.size 2 A (ps.map dY))(hc:ps.length<=100000000000000)(h:ps.all Pt.ok=r) :
  Calls Tryz.prog 134 #[.slice A ps.length c,.func (.func 106) #[] #[]] w fun e w'=>afi ps.length r e/\Grew w w':=by
 have hm:=aP
 have HR:=hide h
 clear h
 go_enter Tryz.func134,Tryz.ntmps134
 go_wp2_with fail
 go_loopw [8] (fun i wr=>∃k:Nat,k<=ps.length/\i=.int .i64 k/\Grew w wr/\wW ((ps.take k).all Pt.ok=true)) (fun i _=>ps.length-(intOf i).toNat)
 case atStart=>exact⟨0,by omega,rfl,gw,rfl⟩
 case round =>
  obtain⟨k,hk,rfl,hg,hall⟩:=hrel
  have HG:=hide hg
  have HA:=hide hall.stop
  clear hg hall
  by_cases hlt:k<ps.length
  ·obtain⟨p,hp⟩:∃p,ps[k]?=some p:=⟨_,List.getElem?_eq_getElem hlt⟩
   obtain⟨b,off,hA,hb,h0,h1⟩:=ug (hr.up HG.out) hp
   have hix:=aO (cap:=c) Tryz.underlying62 Tryz.sizeOf28 hA.out hlt
   have hs:=rU Pt.ok hp
   rw[HA.out,Bool.true_and] at hs
   have HP:=hide hp
   have HS:=hide hs
   obtain⟨o,ho⟩:∃o,p.ok = !o:=⟨!p.ok,by simp⟩
   have k1:=hide (fun W=>abw p o W ho)
   have HO:=hide ho
   clear hp hs ho
   obtain⟨p1,p2⟩:=p
   dsimp only at h0 h1
   cases o
   ·go_wp2_with (go_at_call 106;with_reducible refine aQ (k1.out _) fun _ _=>?_;dsimp only)
    go_roundw
    case rel=>exact⟨k+1,by omega,by go_num,HG.out.trans gw,by rw[HS.out];exact HO.out⟩
    case measure=>simp[intOf];omega
   ·go_wp2_with (go_at_call 106;with_reducible refine aQ (k1.out _) fun _ _=>?_;dsimp only)
    go_ret
    have e:ps.all Pt.ok=false:=uS HP.out HO.out
    obtain rfl:r=false:=by rw[<-HR.out,e]
    exact⟨.inr ⟨k,by omega,rfl,rfl⟩,HG.out.trans gw⟩
  ·obtain rfl:k=ps.length:=by omega
   rw[List.take_length] at HA
   obtain rfl:r=true:=by rw[<-HR.out,HA.out]
   go_wp2_with fail
   go_ret
   exact⟨.inl ⟨rfl,rfl⟩,HG.out⟩
theorem Uz (ps:List Pt)(A:Option Addr)(c:Nat)(r:Bool)(w:World)(hr:Rd w w.heap.size 2 A (ps.map dY))(hc:ps.length<=100000000000000)(h:ps.all Pt.ok = !r) :
  Calls Tryz.prog 107 #[.slice A ps.length c,.func (.func 106) #[] #[]] w (aC w (.bool r)):=by
 have hm:=aP
 have k1:=hide (fun W (hg:Grew w W)=>abv ps A c (!r) W (hr.up hg) hc h)
 clear h
 go_enter Tryz.func107,Tryz.ntmps107
 go_wp2_with fail
 refine (k1.out _ gw).mono ?_
 rintro e w' ⟨h,⟨⟨n1,os1⟩,rfl⟩⟩
 rcases h with⟨rfl,hr2⟩|⟨k,hk,rfl,hr2⟩
 ·obtain rfl:r=false:=by simpa using hr2
  dsimp only
  go_wp2_with fail
  go_ret
  exact aC.mk' rfl gw
 ·obtain rfl:r=true:=by simpa using hr2
  dsimp only
  have hk0:0<=(k:Int):=by omega
  go_wp2_with fail
  go_ret
  exact aC.mk' (by simp) gw
attribute [local go_sem] Oper.semAt_some
theorem wJ (ps:List Pt)(A:Option Addr)(c:Nat)(i:Int)(m:Nat)(p:Pt)(w:World)(hr:Rd w w.heap.size 2 A (ps.map dY))(hc:ps.length<=1000000)(hi:0<=i+ps.length/\i<=10000000)(hm:(i+ps.length)%(ps.length:Int)=m)(hp:ps[m]?=some p) :
  Calls Tryz.prog 110 #[.slice A ps.length c,.int .i64 i] w (aC w (pt p.1 p.2)):=by
 have hmx:=aP
 obtain⟨b,off,hA,hb,h0,h1⟩:=ug hr hp
 have hml:=(List.getElem?_eq_some_iff.1 hp).1
 have hix:=aO (cap:=c) Tryz.underlying174 Tryz.sizeOf28 hA.out hml
 rw[<-hm,show (i+(ps.length:Int))%(ps.length:Int)=i%(ps.length:Int) by simp] at hix
 have hne:¬ (ps.length:Int)=0:=by omega
 have hne2:¬ ps=[]:=by intro e;rw[e] at hml;simp at hml
 have HM:=hide hm
 obtain⟨p1,p2⟩:=p
 dsimp only at h0 h1
 have h5:0<=(i+ps.length)%(ps.length:Int)/\(i+ps.length)%(ps.length:Int)<ps.length:=by rw[hm];omega
 clear hm hp
 go_enter Tryz.func110,Tryz.ntmps110
 go_wp2_with fail
 refine bodyPost_ret (v:=pt p1 p2) (by simp[results,Tryz.results110,go_sem]) rfl ?_
 exact aC.mk' rfl gw
theorem jY (A:Option Addr)(n c:Nat)(w:World) :
  Calls Tryz.prog 136 #[.slice A n c] w fun e w'=>e=.returned (.func (.func 153) #[] #[.pointer (some ⟨w.heap.size,0,none⟩)])/\w.alloc (.cells #[.slice A n c] 174 (0,0))=w':=by
 go_enter Tryz.func136,Tryz.ntmps136
 go_wp2
 go_ret
 exact⟨rfl,rfl⟩
theorem gW.cell {M:Nat->TypeId->Prop}{W W':World}(h:gW M W W'){b i:Nat}{v:Value}(hM:∀T,¬ M b T)(hc:W.cell? ⟨b,i,none⟩=some v):W'.cell? ⟨b,i,none⟩=some v:=by
 have hc2:=hc
 unfold World.cell? at hc2
 dsimp only at hc2
 split at hc2
 ·rename_i cs T fr hh
  exact (World.cell?_of_block (a:=⟨b,i,none⟩) ((h b cs T fr (hM T) hh).trans hh.symm)).trans hc
 ·cases hc2
theorem Rd.kpm {M:Nat->TypeId->Prop}{w w':World}{B m:Nat}{A:Option Addr}{xs:List (List Value)}(h:Rd w B m A xs)(hk:gW M w w')(hM:∀b T,b<B->¬ M b T):Rd w' B m A xs :=
 h.elim .inl fun ⟨b,off,hA,hb,hc⟩=>.inr ⟨b,off,hA,hb,fun k x hx j v hv=>hk.cell (fun T=>hM b T hb) (hc k x hx j v hv)⟩
def ah (ps:List Pt)(i:Nat):Pt:=ps.getD (i%ps.length) (0,0)
def CQ (ps:List Pt)(i:Fin ps.length):Array Value:=#[.int .i64 (i.1:Nat),.agg #[.int .i64 (ah ps i.1).1,.int .i64 (ah ps i.1).2,.int .i64 (ah ps (i.1+1)).1,.int .i64 (ah ps (i.1+1)).2]]
theorem gV {ps:List Pt}{k:Nat}(h:k<ps.length):ps[k]?=some (ah ps k):=by
 unfold ah
 rw[Nat.mod_eq_of_lt h,List.getD_eq_getElem?_getD,List.getElem?_eq_getElem h]
 rfl
theorem zO {ps:List Pt}(k:Nat)(h:0<ps.length):ps[k%ps.length]?=some (ah ps k):=by
 unfold ah
 rw[List.getD_eq_getElem?_getD,List.getElem?_eq_getElem (Nat.mod_lt _ h)]
 rfl
theorem cell_lt {W:World}{b i:Nat}{v:Value}(h:W.cell? ⟨b,i,none⟩=some v):b<W.heap.size:=by
 unfold World.cell? at h
 dsimp only at h
 split at h
 ·rename_i hh;exact au hh
 ·cases h
theorem gU (n K:Nat)(M:Nat->TypeId->Prop)(ps:List Pt)(A:Option Addr)(c B:Nat)(w:World)(hM:∀b T,M b T->(K<=b/\b<w.heap.size)/\b≠B)(hB:w.heap[B]?=some (.cells #[.slice A ps.length c] 174 (0,0)))
  (hr:Rd w K 2 A (ps.map dY)) (hK:K<=w.heap.size) (hl:ps.length<=1000000) :
  SeqStopsK Fence.wide n Tryz.prog 153 #[.pointer (some ⟨B,0,none⟩)] (CQ ps) (gW M) (fun xs=>xs.map Fin.val=List.range ps.length) (fun pre=>∃k,k<=ps.length/\pre.map Fin.val=List.range k) ps.length w:=by
 intro l J Jx W hW hJ hJx hY h0
 have hm:=aP
 have HR:=hide ((hr.below (hW.mono hK)))
 have hBW:W.heap[B]?=some _:=(hW.block B (au hB)).trans hB
 have c0:W.cell? ⟨B,0,none⟩=some (.slice A ps.length c):=by rw[ag hBW];rfl
 have HM:=hide hM
 have hMK:Hid (∀b T,b<K->¬ M b T):=hide (fun b T hb h=>by have:=(hM b T h).1.1;omega)
 have SK:Hid (∀T,¬ M B T):=hide (fun T h=>(hM B T h).2 rfl)
 have hMW:Hid (∀b T,w.heap.size<=b->¬ M b T):=hide (fun b T hb h=>by have:=(hM b T h).1.2;omega)
 have hKW:K<=W.heap.size:=Nat.le_trans hK hW.size
 have Sm:=hW.size
 have HJ:=hide hJ
 have HJx:=hide hJx
 have HY:=hide hY
 have H0:=hide h0
 clear hr hM hJ hJx hY h0 hW hB hBW
 refine callsIn_of_wp Tryz.func153 rfl trivial ?_ rfl
 simp only[Tryz.ntmps153,List.size_toArray,List.length_cons,List.length_nil,Nat.reduceAdd,Nat.reduceSub,Array.replicate_succ,Array.replicate_zero,List.push_toArray,List.append_toArray,List.nil_append,List.cons_append]
 gi_wp2_with fail
 gi_loopw [7] (fun i wr=>∃ (k:Nat) (pre:List (Fin ps.length)),k<=ps.length/\i=.int .i64 k/\pre.map Fin.val=List.range k/\J pre wr/\Rd wr K 2 A (ps.map dY)/\wr.cell? ⟨B,0,none⟩=some (.slice A ps.length c)/\W.heap.size<=wr.heap.size) (fun i _=>ps.length-(intOf i).toNat)
 case atStart=>exact⟨0,[],by omega,rfl,rfl,H0.out,HR.out,c0,Nat.le_refl _⟩
 case round =>
  obtain⟨k,pre,hk,rfl,hpre,hJ,hrd,hcB,hsz⟩:=hrel
  have lV:pre.length=k:=by have:=congrArg List.length hpre;simpa using this
  have kW:=hide hpre
  clear c0 hpre
  by_cases hlt:k<ps.length
  ·have hp:=gV hlt
   have hpos:0<ps.length:=by omega
   have hq:=zO (k+1) hpos
   have henc:CQ ps ⟨k,hlt⟩=#[.int .i64 k,.agg #[.int .i64 (ah ps k).1,.int .i64 (ah ps k).2,.int .i64 (ah ps (k+1)).1,.int .i64 (ah ps (k+1)).2]]:=rfl
   obtain⟨p,hpp⟩:∃p,ah ps k=p:=⟨_,rfl⟩
   obtain⟨q,hqq⟩:∃p,ah ps (k+1)=p:=⟨_,rfl⟩
   rw[hpp] at hp
   rw[hqq] at hq
   rw[hpp,hqq] at henc
   obtain⟨b,off,hA,hb,h0,h1⟩:=ug hrd hp
   have hix:=aO (cap:=c) Tryz.underlying174 Tryz.sizeOf28 hA.out hlt
   have hbw:b<wr.heap.size:=by omega
   have hBw:B<wr.heap.size:=cell_lt hcB
   obtain⟨p1,p2⟩:=p
   obtain⟨q1,q2⟩:=q
   dsimp only at h0 h1
   have kc:=hide (fun W' (hg:Grew wr W')=>wJ ps A c ((k:Int)+1) ((k+1)%ps.length) (q1,q2) W' ((hrd.mono (by omega)).up hg) hl (by omega) (by rw[Int.natCast_emod,Int.add_emod_right];rfl) hq)
   have ew:IntKind.i64.wrap ((k:Int)+1)=(k:Int)+1:=by unfold IntKind.wrap;simp[IntKind.bits,IntKind.signed];omega
   have FZ:=hide hrd
   have adf:=hide henc
   have F7:Hid ((pre++[(⟨k,hlt⟩:Fin ps.length)]).map Fin.val=List.range (k+1)):=hide (by rw[List.map_append,kW.out,List.range_succ];rfl)
   have O1:=hide lV
   have CG:=hide hJ
   clear hp hq henc hpp hqq hrd hJ lV
   gi_wp2_with fail
   refine kL 8 [] [] hm (h:=?_)
   repeat (refine ax (fun K hK=>?_);go_simp;first|(refine hK _ ?_;clear hK K)|(apply Exists.intro;refine⟨fun _=>?_,hK _ ?_⟩;(go_at_call 110;with_reducible exact kc.out _ gw);clear hK K))
   refine U4 fun nq osq=>?_
   try simp only[Act.put,aG]
   try dsimp only
   have hg5:Grew wr (grow (dr (wr.alloc (.cells #[.int .i64 p1,.int .i64 p2] 28)) nq) osq):=gw
   have EC:=HJ.out _ _ _ none CG.out (hg5.grownBy none) (fun r hr=>by cases hr)
   have hbx:(grow (dr (wr.alloc (.cells #[.int .i64 p1,.int .i64 p2] 28)) nq) osq).heap[wr.heap.size]?=some (.cells #[.int .i64 p1,.int .i64 p2] 28 (0,0)):=(heap_grow_old _ _ (by simp[bU])).trans (az _ _ _ rfl)
   have hr5:=FZ.out.grew hg5 (by omega)
   have hc5:=(hg5.below.cell (p:=⟨B,0,none⟩) hBw).trans hcB
   obtain⟨Zp,YB,ZX,ZR,hy1,hR1⟩:=HY.out _ ⟨k,hlt⟩ _ EC (by rw[O1.out];exact hlt)
   rw[adf.out] at hy1
   have HR1:=hide hR1
   have HR5:=hide hr5
   have HC5:=hide hc5
   have mF:=hide hbx
   clear hR1 hr5 hc5 hbx hg5 EC
   gi_wp2_with fail
   refine⟨(fun h=>by cases h),?_⟩
   refine HR1.out.mono ?_
   rintro e W3 (⟨rfl,hJ3,hk3⟩|⟨rfl,hJx3⟩)
   ·have xM:=HR5.out.kpm hk3 hMK.out
    have hc3:=hk3.cell SK.out HC5.out
    have hb3:=au (hk3 _ _ _ _ (hMW.out _ _ (by omega)) mF.out)
    have MM:=hide hJ3
    have Ua:=hide hc3
    have JE:=hide xM
    clear hJ3 hc3 xM hk3 hy1 h0 h1 hcB
    dsimp only
    gi_wp2_with fail
    go_roundw
    case rel=>exact⟨k+1,_,by omega,by go_num,F7.out,MM.out,JE.out,Ua.out,by omega⟩
    case measure=>simp[intOf];omega
   ·have HX:=hide hJx3
    clear hJx3 hy1
    dsimp only
    gi_wp2_with fail
    refine bodyPost_ret (results_none rfl _ _ _) rfl ?_
    exact⟨⟨_,rfl⟩,.inr ⟨_,⟨k+1,by omega,F7.out⟩,HX.out⟩⟩
  ·obtain rfl:k=ps.length:=by omega
   gi_wp2
   go_end0
   exact⟨⟨_,rfl⟩,.inl ⟨_,kW.out,hJ⟩⟩
end Go.Proofs.YtlkgjmnjhifehaaGreat
