/- Package poly: Touch. -/
import Derived.Test.YtlkgjmnjhifehaaGreatToQ
set_option linter.unusedSimpArgs false
set_option linter.unusedVariables false
set_option maxHeartbeats 8000000
set_option maxRecDepth 100000
namespace Go.Proofs.YtlkgjmnjhifehaaGreat
open Go.RowKit Go.Sort
attribute [local go_sem] dA steadyUpon
attribute [local go_sem ↓] bU bI aX aW aV aU aT
attribute [local go_sem] bH aK aJ size_grow tape_grow cell?_grow' aF aB grow_grow bW aY dR cO bY bK aN cZ aZ bZ bJ
attribute [local irreducible] wpSteady
attribute [local go_sem] Oper.semAt_some
theorem TR (ps qs:List Pt)(A A':Option Addr)(c c':Nat)(w:World)(hr:Rd w w.heap.size 2 A (ps.map dY))(hr':Rd w w.heap.size 2 A' (qs.map dY))(hc:ps.length<=100000000000000)(hc':qs.length<=100000000000000)(h:(dm ps&&dm qs)=false) :
  Calls Tryz.prog 212 #[.slice A ps.length c,.slice A' qs.length c'] w (aC w (.tuple #[.bool false,.int .i64 1])):=by
 have hm:=aP
 obtain⟨u,hu⟩:∃u,dm ps=u:=⟨_,rfl⟩
 obtain⟨v,hv⟩:∃u,dm qs=u:=⟨_,rfl⟩
 rw[hu,hv] at h
 have k1:=hide (fun W (hg:Grew w W)=>jJ ps A c u W (hr.up hg) hc hu)
 have k2:=hide (fun W (hg:Grew w W)=>jJ qs A' c' v W (hr'.up hg) hc' hv)
 clear hu hv
 have hcase:u=false\/(u=true/\v=false):=by
  cases u
  ·exact .inl rfl
  ·cases v
   ·exact .inr ⟨rfl,rfl⟩
   ·simp at h
 clear h
 rcases hcase with rfl|⟨rfl,rfl⟩
 all_goals
  go_enter Tryz.func212,Tryz.ntmps212
  go_wp2_with (first|(go_at_call 88;with_reducible refine aQ (k1.out _ gw) fun _ _=>?_;dsimp only)|(go_at_call 88;with_reducible refine aQ (k2.out _ gw) fun _ _=>?_;dsimp only))
  refine bodyPost_ret (v:=.tuple #[.bool false,.int .i64 1]) (by simp[results,Tryz.results212,go_sem]) rfl ?_
  exact aC.mk' rfl gw
theorem OW (ps qs:List Pt)(A A':Option Addr)(c c':Nat)(w:World)(hr:Rd w w.heap.size 2 A (ps.map dY))(hr':Rd w w.heap.size 2 A' (qs.map dY))(hu:dm ps=true)(hv:dm qs=true) :
  Calls Tryz.prog 212 #[.slice A ps.length c,.slice A' qs.length c'] w (aC w (.tuple #[.bool (vO ps qs),.int .i64 0])):=by
 have hm:=aP
 have hp:=jH hu
 have hq:=jH hv
 have k1:=hide (fun W (hg:Grew w W)=>jJ ps A c true W (hr.up hg) (by omega) hu)
 have k2:=hide (fun W (hg:Grew w W)=>jJ qs A' c' true W (hr'.up hg) (by omega) hv)
 have HR:=hide hr
 have HR':=hide hr'
 have vz:=hide hp.2
 have aar:=hide hq.2
 have hl:ps.length<=24:=hp.1.2
 have hl':qs.length<=24:=hq.1.2
 have hn:0<ps.length:=by have:=hp.1.1;omega
 have hn':0<qs.length:=by have:=hq.1.1;omega
 obtain⟨rr,hrr⟩:∃v,vO ps qs=v:=⟨_,rfl⟩
 rw[hrr]
 have HRR:=hide hrr
 clear hr hr' hu hv hp hq hrr
 refine (callsIn_wide (n:=13)).1 ?_
 refine callsIn_of_wp_marks Tryz.func212 rfl trivial ?_ rfl
 simp only[Tryz.ntmps212,List.size_toArray,List.length_cons,List.length_nil,Nat.reduceAdd,Nat.reduceSub,Array.replicate_succ,Array.replicate_zero,List.push_toArray,List.append_toArray,List.nil_append,List.cons_append]
 gi_wp2_with fail
 refine⟨trivial,?_⟩
 refine (callsIn_wide.2 (k1.out _ gw)).mono ?_
 rintro e w' ⟨rfl,⟨n1,os1⟩,rfl⟩
 dsimp only
 gi_wp2_with fail
 refine⟨trivial,?_⟩
 refine (callsIn_wide.2 (k2.out _ gw)).mono ?_
 rintro e w' ⟨rfl,hg1⟩
 obtain⟨bx,hbx⟩:∃bx:List Obj,bx=[.cells #[.slice A' qs.length c'] 62 (0,0),.cells #[.bool false] 4 (0,0),.cells #[.int .i64 0] 31 (0,0)]:=⟨_,rfl⟩
 have hb1:Bx w' w.heap.size bx:=by rw[hbx];refine (Bx.lT _ w).1.grew ?_;simp only[List.foldl];exact Grew.trans gw hg1
 have hw1:Grew w w':=Grew.trans gw hg1
 have hz1:w.heap.size+3<=w'.heap.size:=by
  have:=hb1 2 _ (by rw[hbx];rfl)
  have:=au this
  omega
 clear hg1
 have hbl:bx.length=3:=by rw[hbx];rfl
 have Hb1:=hide hb1
 have Hw1:=hide hw1
 clear hb1 hw1
 dsimp only
 gi_wp2_with fail
 refine⟨trivial,?_⟩
 refine (callsIn_wide.2 (jY _ _ _ _)).mono ?_
 rintro e w'' ⟨rfl,rfl⟩
 dsimp only
 gi_wp2_with fail
 refine dJ ?_
 intro a0 W0 ha hW
 have uB:Grew w' W0:=by rw[<-hW];exact gw
 have hg0:Grew w W0:=Hw1.out.trans uB
 have hb0:=Hb1.out.grew uB
 have hk0:W0.heap[w'.heap.size]?=some (.cells #[.slice A ps.length c] 174 (0,0)):=by rw[<-hW];exact heap_alloc_new _ _
 have hsz:W0.heap.size=w'.heap.size+1:=by rw[<-hW];simp
 clear hW uB
 obtain⟨Z,hZ⟩:∃Z,w'.heap.size=Z:=⟨_,rfl⟩
 rw[hZ] at hk0 hsz hz1
 have ha2:a0.eval (.tmp 21)=.func (.func 153) #[] #[.pointer (some ⟨Z,0,none⟩)]:=by rw[<-ha,<-hZ];simp[Act.eval]
 refine wpIn_rangeFunc_ownH (n:=13) rfl (by omega) (gf:=153) (lb:=#[.pointer (some ⟨Z,0,none⟩)]) ha2 trivial (enters_of Tryz.func153 (by kernel_rfl) rfl)
  (gU 12 w.heap.size (fun _ _=>False) ps A c Z W0 (fun b _ hb=>hb.elim) hk0 (HR.out.grew hg0 (Nat.le_refl _)) (by omega) (by omega))
  (fun h k=>h.trans k) gW.bk (Below.refl _ _) (fun _=>rfl)
  (fun pre W=>(Below w.heap.size w W/\Bx W w.heap.size bx)/\∀i∈pre,DK ps qs i.1=false)
  (fun e pre W=>((Below w.heap.size w W/\Boxed W (w.heap.size+1) 4 (.bool true))/\Boxed W (w.heap.size+2) 31 (.int .i64 0))/\(e=.ret/\rr=true))
  (OwnFrom.and (OwnFrom.and (ownFrom_below (Nat.le_refl _) hg0.below.size) (Bx.own (by omega))) (ownFrom_pure _))
  (fun q=>OwnFrom.and (OwnFrom.and (OwnFrom.and (ownFrom_below (Nat.le_refl _) hg0.below.size) (fun s X Y row h1 hg hr=>Own.from (boxed_own (β:=Unit) _ _ (fun _=>_)) _ () X Y row h1 hg hr)) (fun s X Y row h1 hg hr=>Own.from (boxed_own (β:=Unit) _ _ (fun _=>_)) _ () X Y row h1 hg hr)) (ownFrom_pure _))
  ⟨⟨hg0.below,hb0⟩,fun i hi=>by cases hi⟩
  (fun x a' W=>∃B,W.heap[B]?=some (.cells #[.int .i64 (ah ps x.1).1,.int .i64 (ah ps x.1).2,.int .i64 (ah ps (x.1+1)).1,.int .i64 (ah ps (x.1+1)).2] 206 (0,0))/\a'={ tmps:=((a0.tmps.setIfInBounds 22 (.int .i64 (x.1:Nat))).setIfInBounds 23 (.agg #[.int .i64 (ah ps x.1).1,.int .i64 (ah ps x.1).2,.int .i64 (ah ps (x.1+1)).1,.int .i64 (ah ps (x.1+1)).2])).setIfInBounds 7 (.pointer (some ⟨B,0,none⟩)),defers:=[] })
  (fun x a'=>by
   rintro s X Y row ⟨B,h1,h2⟩ hg hr
   exact⟨B,fG h1 hg (fun r e=>(hr r e).2),h2⟩)
  ?assign ?body ?done ?stop
 case assign =>
  rintro l pre x W K ⟨⟨hB,hb⟩,hp⟩ hK
  rw[show CQ ps x=#[.int .i64 (x.1:Nat),.agg #[.int .i64 (ah ps x.1).1,.int .i64 (ah ps x.1).2,.int .i64 (ah ps (x.1+1)).1,.int .i64 (ah ps (x.1+1)).2]] from rfl,FT]
  subst ha
  simp only[List.setIfInBounds_toArray,List.set_cons_succ,List.set_cons_zero] at hK ⊢
  have wu:=hide hK
  clear hK
  gi_wp2_with fail
  have hgg:Grew W (W.alloc (.cells #[.int .i64 (ah ps x.1).1,.int .i64 (ah ps x.1).2,.int .i64 (ah ps (x.1+1)).1,.int .i64 (ah ps (x.1+1)).2] 206)):=gw
  exact wu.out _ _ (hgg.aS _) (gW.grew hgg) ⟨⟨hB.trans (hgg.below.mono hB.size),hb.grew hgg⟩,hp⟩ ⟨W.heap.size,heap_alloc_new _ _,rfl⟩
 case body =>
  rintro l pre x a' W hl2 hlp ⟨⟨hB,hb⟩,hp⟩ ⟨C,hy,rfl⟩ hlt
  subst ha
  subst hbx
  have c0:W.cell? ⟨w.heap.size,0,none⟩=some (.slice A' qs.length c'):=(hb.box 0 rfl).cell
  have hzl:=(hb.box 2 rfl).lt
  have ajg:w.heap.size<W.heap.size:=by omega
  have HB:=hide hB
  have Hb:=hide hb
  have HP:=hide hp
  have XY:=hide hy
  have HLP:=hide hlp
  clear hB hb hp hy hlp
  simp only[List.setIfInBounds_toArray,List.set_cons_succ,List.set_cons_zero]
  gi_wp2_with fail
  refine⟨trivial,?_⟩
  refine (CallsIn.inRound l (callsIn_wide.2 (jY _ _ _ _))).mono ?_
  rintro e w' ⟨rfl,rfl⟩
  dsimp only
  gi_wp2_with fail
  refine dJ ?_
  intro a1 W1 ha1 hW1
  have hg1:Grew W W1:=by rw[<-hW1];exact gw
  have hk1:W1.heap[W.heap.size]?=some (.cells #[.slice A' qs.length c'] 174 (0,0)):=by rw[<-hW1];exact heap_alloc_new _ _
  have hz1':W1.heap.size=W.heap.size+1:=by rw[<-hW1];simp
  have hB1:Below w.heap.size w W1:=HB.out.trans (hg1.below.mono HB.out.size)
  have hb1:=Hb.out.grew hg1
  have hy1:=(hg1.below.block _ (au XY.out)).trans XY.out
  have hCl:=au XY.out
  have Yg:=HB.out.size
  obtain⟨r0,hlr⟩:=HLP.out
  have acd:=(hg1.below.block _ (au hlr)).trans hlr
  clear hW1
  have hWW:W0.heap.size<=W.heap.size:=Nat.le_of_lt (Nat.lt_of_le_of_lt hl2 (au hlr))
  refine wpIn_rangeFunc_ownN (n:=11) rfl acd (by omega) (gf:=153) (lb:=#[.pointer (some ⟨W.heap.size,0,none⟩)]) (by rw[<-ha1];simp[Act.eval]) trivial (enters_of Tryz.func153 (by kernel_rfl) rfl)
   ((gU 10 w.heap.size (fun _ _=>False) qs A' c' W.heap.size W1 (fun b _ hb=>hb.elim) hk1 (HR'.out.below hB1) (by omega) (by omega)).inRound l)
   (fun h k=>h.trans k) gW.bk (Below.refl _ _) (fun _=>rfl)
   (fun pre2 V=>(((Below w.heap.size w V/\Bx V w.heap.size _)/\(KeepsFrom W0.heap.size W V/\gW (fun _ _=>False) W V))/\V.heap[C]?=some (.cells #[.int .i64 (ah ps x.1).1,.int .i64 (ah ps x.1).2,.int .i64 (ah ps (x.1+1)).1,.int .i64 (ah ps (x.1+1)).2] 206 (0,0)))/\∀k∈pre2,GI ps qs x.1 k.1=false)
   (fun q pre2 V=>(((Below w.heap.size w V/\Boxed V (w.heap.size+1) 4 (.bool true))/\Boxed V (w.heap.size+2) 31 (.int .i64 0))/\KeepsFrom W0.heap.size W V)/\(q=.ret/\rr=true))
   (OwnFrom.and (OwnFrom.and (OwnFrom.and (OwnFrom.and (ownFrom_below (Nat.le_refl _) (by omega)) (Bx.own (by simp;omega))) (OwnFrom.and (ownFrom_keepsFrom (by omega)) (gW.own (by omega)))) (nz (by omega))) (ownFrom_pure _))
   (fun q=>OwnFrom.and (OwnFrom.and (OwnFrom.and (OwnFrom.and (ownFrom_below (Nat.le_refl _) (by omega)) (fun s X Y row h1 hg hr=>Own.from (boxed_own (β:=Unit) _ _ (fun _=>_)) _ () X Y row h1 hg hr)) (fun s X Y row h1 hg hr=>Own.from (boxed_own (β:=Unit) _ _ (fun _=>_)) _ () X Y row h1 hg hr)) (ownFrom_keepsFrom (by omega))) (ownFrom_pure _))
   ⟨⟨⟨⟨hB1,hb1⟩,hg1.aS _,gW.grew hg1⟩,hy1⟩,fun k hk=>by cases hk⟩
   (fun x2 a' V=>∃D,V.heap[D]?=some (.cells #[.int .i64 (ah qs x2.1).1,.int .i64 (ah qs x2.1).2,.int .i64 (ah qs (x2.1+1)).1,.int .i64 (ah qs (x2.1+1)).2] 206 (0,0))/\a'={ tmps:=((a1.tmps.setIfInBounds 26 (.int .i64 (x2.1:Nat))).setIfInBounds 27 (.agg #[.int .i64 (ah qs x2.1).1,.int .i64 (ah qs x2.1).2,.int .i64 (ah qs (x2.1+1)).1,.int .i64 (ah qs (x2.1+1)).2])).setIfInBounds 9 (.pointer (some ⟨D,0,none⟩)),defers:=[] })
   (fun x2 a'=>by
    rintro s X Y row ⟨D,h1,h2⟩ hg hr
    exact⟨D,fG h1 hg (fun r e=>(hr r e).2),h2⟩)
   ?assign2 ?body2 ?done2 ?stop2
  case assign2 =>
   rintro l' pre2 x2 V K hI hK
   rw[show CQ qs x2=#[.int .i64 (x2.1:Nat),.agg #[.int .i64 (ah qs x2.1).1,.int .i64 (ah qs x2.1).2,.int .i64 (ah qs (x2.1+1)).1,.int .i64 (ah qs (x2.1+1)).2]] from rfl,FT]
   subst ha1
   simp only[List.setIfInBounds_toArray,List.set_cons_succ,List.set_cons_zero] at hK ⊢
   have wu:=hide hK
   have HI:=hide hI
   clear hK hI
   gi_wp2_with fail
   obtain⟨⟨⟨⟨i1,i2⟩,i3,i4⟩,i6⟩,i7⟩:=HI.out
   have hgg:Grew V (V.alloc (.cells #[.int .i64 (ah qs x2.1).1,.int .i64 (ah qs x2.1).2,.int .i64 (ah qs (x2.1+1)).1,.int .i64 (ah qs (x2.1+1)).2] 206)):=gw
   exact wu.out _ _ (hgg.aS _) (gW.grew hgg) ⟨⟨⟨⟨i1.trans (hgg.below.mono i1.size),i2.grew hgg⟩,i3.trans (hgg.aS _),i4.trans (gW.grew hgg)⟩,(hgg.below.block _ (au i6)).trans i6⟩,i7⟩ ⟨V.heap.size,heap_alloc_new _ _,rfl⟩
  case body2 =>
   rintro l' pre2 x2 a' V hl3 hlp ⟨⟨⟨⟨i1,i2⟩,i3,i4⟩,i6⟩,i7⟩ ⟨D,hz,rfl⟩ hlt2
   subst ha1
   obtain⟨i,hil⟩:=x
   obtain⟨k,hkl⟩:=x2
   dsimp only at i6 hz hlt2 i7
   have i8:=i2.box 1 rfl
   have i9:=i2.box 2 rfl
   have c3:V.cell? ⟨C,0,none⟩=some _:=ag i6 0
   have c4:V.cell? ⟨C,1,none⟩=some _:=ag i6 1
   have c5:V.cell? ⟨C,2,none⟩=some _:=ag i6 2
   have c6:V.cell? ⟨C,3,none⟩=some _:=ag i6 3
   have c7:V.cell? ⟨D,0,none⟩=some _:=ag hz 0
   have c8:V.cell? ⟨D,1,none⟩=some _:=ag hz 1
   have c9:V.cell? ⟨D,2,none⟩=some _:=ag hz 2
   have c10:V.cell? ⟨D,3,none⟩=some _:=ag hz 3
   have c11:V.cell? ⟨w.heap.size+1,0,none⟩=_:=i8.cell
   have f11:V.frozen? ⟨w.heap.size+1,0,none⟩=_:=i8.frozen
   have c12:V.cell? ⟨w.heap.size+2,0,none⟩=_:=i9.cell
   have f12:V.frozen? ⟨w.heap.size+2,0,none⟩=_:=i9.frozen
   have l12:=i9.lt
   have l11:=i8.lt
   have hCV:=au i6
   have hDV:=au hz
   have KI:Hid ((((Below w.heap.size w V/\Bx V w.heap.size _)/\(KeepsFrom W0.heap.size W V/\gW (fun _ _=>False) W V))/\V.heap[C]?=_)/\∀k∈pre2,GI ps qs i k.1=false):=hide ⟨⟨⟨⟨i1,i2⟩,i3,i4⟩,i6⟩,i7⟩
   have I8:=hide i8
   have I9:=hide i9
   clear i1 i2 i3 i4 i6 i7 i8 i9 hz c0
   obtain⟨m,hmt⟩:∃m,GI ps qs i k=m:=⟨_,rfl⟩
   have k9:=hide (fun W=>QJ (ah ps i) (ah ps (i+1)) (ah qs k) (ah qs (k+1)) W (eH vz.out _) (eH vz.out _) (eH aar.out _) (eH aar.out _))
   rw[show bC (ah ps i) (ah ps (i+1)) (ah qs k) (ah qs (k+1))=m from hmt] at k9
   have fin1:Hid (m=false->∀k'∈pre2++[(⟨k,hkl⟩:Fin qs.length)],GI ps qs i k'.1=false):=hide fun hpp k' hk'=>by
    rcases List.mem_append.1 hk' with h|h
    ·exact KI.out.2 k' h
    ·obtain rfl:=List.mem_singleton.1 h
     exact hmt.trans hpp
   have fin2:Hid (m=true->rr=true):=hide fun hpp=>by
    rw[<-HRR.out]
    have:jT ps qs=true:=List.any_eq_true.2 ⟨i,List.mem_range.2 hil,List.any_eq_true.2 ⟨k,List.mem_range.2 hkl,hmt.trans hpp⟩⟩
    unfold vO
    rw[this];rfl
   clear hmt hsz
   simp only[List.setIfInBounds_toArray,List.set_cons_succ,List.set_cons_zero]
   generalize ah ps i=a at *
   generalize ah ps (i+1)=b at *
   generalize ah qs k=d at *
   generalize ah qs (k+1)=g at *
   obtain⟨a1,a2⟩:=a
   obtain⟨b1,b2⟩:=b
   obtain⟨d1,d2⟩:=d
   obtain⟨g1,g2⟩:=g
   gi_wp2_with fail
   refine⟨trivial,?_⟩
   refine (CallsIn.inRound l' (CallsIn.inRound l (callsIn_wide.2 (k9.out _)))).mono ?_
   rintro e w' ⟨rfl,⟨n5,Gv⟩,rfl⟩
   dsimp only
   cases m
   ·have HN:=hide (fin1.out rfl)
    clear fin1 fin2
    gi_wp2_with fail
    have hgg:Grew V (grow (dr V n5) Gv):=gw
    obtain⟨⟨⟨⟨i1,i2⟩,i3,i4⟩,i6⟩,i7⟩:=KI.out
    exact⟨hgg.aS _,gW.grew hgg,⟨⟨⟨i1.trans (hgg.below.mono i1.size),i2.grew hgg⟩,i3.trans (hgg.aS _),i4.trans (gW.grew hgg)⟩,(hgg.below.block _ (au i6)).trans i6⟩,HN.out⟩
   ·have HN:=hide (fin2.out rfl)
    clear fin1 fin2
    gi_wp2_with fail
    obtain⟨⟨⟨⟨i1,i2⟩,i3,i4⟩,i6⟩,i7⟩:=KI.out
    have hb2:=fun (u v:Value)=>(i1.setCell (p:=⟨w.heap.size+1,0,none⟩) (by simp) u).setCell (p:=⟨w.heap.size+2,0,none⟩) (by simp) v
    exact⟨(KeepsFrom.setCell _ _ _ _).trans ((KeepsFrom.setCell _ _ _ _).trans ((Grew.mk _ _ _).aS _)),⟨⟨⟨(hb2 _ _).trans ((Grew.mk _ _ _).below.mono (hb2 _ _).size),eu ((I8.out.set _).other (by simp) _) _ _⟩,eu ((I9.out.other (by simp) _).set _) _ _⟩,i3.trans ((KeepsFrom.setCell _ _ _ _).trans ((KeepsFrom.setCell _ _ _ _).trans ((Grew.mk _ _ _).aS _)))⟩,rfl,HN.out⟩
  case done2 =>
   rintro xs V hS ⟨⟨⟨⟨i1,i2⟩,i3,i4⟩,i6⟩,i7⟩
   subst ha1
   have hrow:DK ps qs x.1=false:=by
    unfold DK
    rw[<-hS,List.any_map,List.any_eq_false]
    exact fun k hk=>by simpa using i7 k hk
   have Ac:=hide hrow
   have KI:=hide (And.intro (And.intro i1 i2) (And.intro i3 i4))
   clear i1 i2 i3 i4 i6 i7 hS hrow
   gi_wp2_with fail
   refine⟨KI.out.2.1,KI.out.2.2,KI.out.1,fun i hi=>?_⟩
   rcases List.mem_append.1 hi with h|h
   ·exact HP.out i h
   ·obtain rfl:=List.mem_singleton.1 h
    exact Ac.out
  case stop2 =>
   rintro q pre2 V hS ⟨⟨⟨⟨i1,i2⟩,i3⟩,i5⟩,rfl,i4⟩
   subst ha1
   have KI:=hide (And.intro (And.intro (And.intro i1 i2) i3) (And.intro i5 i4))
   clear i1 i2 i3 i4 i5 hS
   gi_wp2_with fail
   exact⟨KI.out.2.1,KI.out.1,rfl,KI.out.2.2⟩
 case done =>
  subst ha
  rintro D xs W hD hS ⟨⟨hB,hb⟩,hp⟩ hK
  subst hbx
  have hno:jT ps qs=false:=by
   unfold jT
   rw[<-hS,List.any_map,List.any_eq_false]
   exact fun k hk=>by simpa using hp k hk
  have hrr:(placeOf ps (ah qs 0)==1||placeOf qs (ah ps 0)==1)=rr:=by
   rw[<-HRR.out];unfold vO;rw[hno];rfl
  obtain⟨r1,hr1⟩:∃r,placeOf ps (ah qs 0)=r:=⟨_,rfl⟩
  obtain⟨r2,hr2⟩:∃r,placeOf qs (ah ps 0)=r:=⟨_,rfl⟩
  have Sm:Grew w W:=Grew.of_below hB
  have q1:=hide (fun V (hg:Grew W V)=>qR ps A c (ah qs 0) r1 V (HR.out.up (Sm.trans hg)) (by omega) vz.out (eH aar.out 0) hr1)
  have q2:=hide (fun V (hg:Grew W V)=>qR qs A' c' (ah ps 0) r2 V (HR'.out.up (Sm.trans hg)) (by omega) aar.out (eH vz.out 0) hr2)
  rw[hr1,hr2] at hrr
  have c0:W.cell? ⟨w.heap.size,0,none⟩=some (.slice A' qs.length c'):=(hb.box 0 rfl).cell
  have b1:Boxed W (w.heap.size+1) _ _:=hb.box 1 rfl
  have c1:=b1.cell
  have f1:=b1.frozen
  have b2:Boxed W (w.heap.size+2) _ _:=hb.box 2 rfl
  have c2:=b2.cell
  have f2:=b2.frozen
  have l2:=b2.lt
  have l1:=b1.lt
  have l0:w.heap.size<W.heap.size:=by omega
  obtain⟨bp,op,hA,hbp,p0,p1⟩:=ug (HR.out.below hB) (gV hn)
  obtain⟨bq,oq,hA',hbq,p2,p3⟩:=ug (HR'.out.below hB) (gV hn')
  have hix:=oI (cap:=c) Tryz.underlying62 Tryz.sizeOf28 hA.out hn
  have hix2:=oI (cap:=c') Tryz.underlying62 Tryz.sizeOf28 hA'.out hn'
  have lbp:bp<W.heap.size:=by omega
  have lbq:bq<W.heap.size:=by omega
  generalize ah ps 0=pp at *
  generalize ah qs 0=qq at *
  obtain⟨pp1,pp2⟩:=pp
  obtain⟨qq1,qq2⟩:=qq
  simp only[Nat.zero_mul,Nat.add_zero] at p0 p1 p2 p3
  have HB:=hide hB
  have afk:=hide b1
  have afj:=hide b2
  have afn:=hide hrr
  have hKl:=au hK
  have HK:=hide hK
  clear hB hb hS hp b1 b2 hno hr1 hr2 HRR hrr Sm hK
  have hcase:(r1==1)=true\/(r1==1)=false:=by cases (r1==1)<;>simp
  rcases hcase with h1|h1
  ·gi_wp2_with fail
   refine kL 14 [] [] hm (h:=?_)
   repeat (refine ax (fun K hK=>?_);go_simp;first|(refine hK _ ?_;clear hK K)|(apply Exists.intro;refine⟨fun _=>?_,hK _ ?_⟩;((go_at_call 213;first|(with_reducible exact q1.out _ gw)|(with_reducible exact q2.out _ gw)));clear hK K))
   refine U4 fun nq osq=>?_
   try simp only[Act.put,aG]
   try dsimp only
   gi_wp2_with fail
   have hxs:=(HB.out.setCell (p:=⟨w.heap.size+1,0,none⟩) (by simp) (.bool true)).setCell (p:=⟨w.heap.size+2,0,none⟩) (by simp) (.int .i64 0)
   have hk1:=(KeepsOthers.setCell (W.setCell ⟨w.heap.size+1,0,none⟩ (.bool true)) ⟨w.heap.size+2,0,none⟩ (.int .i64 0)).same D _ ((KeepsOthers.setCell W ⟨w.heap.size+1,0,none⟩ (.bool true)).same D _ HK.out rfl) rfl
   have hx1:=eu ((afk.out.set (.bool true)).other (B':=w.heap.size+2) (by simp) (.int .i64 0)) nq osq
   have hx2:=eu ((afj.out.other (B':=w.heap.size+1) (by simp) (.bool true)).set (.int .i64 0)) nq osq
   have hgm:=Grew.mk ((W.setCell ⟨w.heap.size+1,0,none⟩ (.bool true)).setCell ⟨w.heap.size+2,0,none⟩ (.int .i64 0)) nq osq
   have hk2:=(hgm.below.block _ (au hk1)).trans hk1
   have hbn:=hxs.trans (hgm.below.mono hxs.size)
   refine⟨by simp,.inl ⟨_,_,rfl,run_takeDeferred hk2,?_⟩⟩
   have hb5:=hbn.trans (belowK_b (w:=w) (Nat.le_refl _) _ D _ (.deferred none) (by omega) hk2 rfl rfl)
   have e3:=(bG (D:=D) (i:=0) (o:=.deferred none) (b:=w.heap.size+1) (by omega)).trans hx1.cell
   have e4:=(bG (D:=D) (i:=0) (o:=.deferred none) (b:=w.heap.size+2) (by omega)).trans hx2.cell
   refine⟨.tuple #[.bool true,.int .i64 0],by simp[results,Tryz.results212,go_sem,e3,e4],?_⟩
   obtain rfl:true=rr:=by rw[<-afn.out,h1];rfl
   exact aC.mk' rfl (Grew.of_below hb5)
  ·gi_wp2_with fail
   refine kL 14 [] [] hm (h:=?_)
   repeat (refine ax (fun K hK=>?_);go_simp;first|(refine hK _ ?_;clear hK K)|(apply Exists.intro;refine⟨fun _=>?_,hK _ ?_⟩;((go_at_call 213;first|(with_reducible exact q1.out _ gw)|(with_reducible exact q2.out _ gw)));clear hK K))
   refine U4 fun nq osq=>?_
   try simp only[Act.put,aG]
   try dsimp only
   gi_wp2_with fail
   have hxs:=(HB.out.setCell (p:=⟨w.heap.size+1,0,none⟩) (by simp) (.bool (r2==1))).setCell (p:=⟨w.heap.size+2,0,none⟩) (by simp) (.int .i64 0)
   have hk1:=(KeepsOthers.setCell (W.setCell ⟨w.heap.size+1,0,none⟩ (.bool (r2==1))) ⟨w.heap.size+2,0,none⟩ (.int .i64 0)).same D _ ((KeepsOthers.setCell W ⟨w.heap.size+1,0,none⟩ (.bool (r2==1))).same D _ HK.out rfl) rfl
   have hx1:=eu ((afk.out.set (.bool (r2==1))).other (B':=w.heap.size+2) (by simp) (.int .i64 0)) nq osq
   have hx2:=eu ((afj.out.other (B':=w.heap.size+1) (by simp) (.bool (r2==1))).set (.int .i64 0)) nq osq
   have hgm:=Grew.mk ((W.setCell ⟨w.heap.size+1,0,none⟩ (.bool (r2==1))).setCell ⟨w.heap.size+2,0,none⟩ (.int .i64 0)) nq osq
   have hk2:=(hgm.below.block _ (au hk1)).trans hk1
   have hbn:=hxs.trans (hgm.below.mono hxs.size)
   refine⟨by simp,.inl ⟨_,_,rfl,run_takeDeferred hk2,?_⟩⟩
   have hb5:=hbn.trans (belowK_b (w:=w) (Nat.le_refl _) _ D _ (.deferred none) (by omega) hk2 rfl rfl)
   have e3:=(bG (D:=D) (i:=0) (o:=.deferred none) (b:=w.heap.size+1) (by omega)).trans hx1.cell
   have e4:=(bG (D:=D) (i:=0) (o:=.deferred none) (b:=w.heap.size+2) (by omega)).trans hx2.cell
   refine⟨.tuple #[.bool (r2==1),.int .i64 0],by simp[results,Tryz.results212,go_sem,e3,e4],?_⟩
   obtain rfl:(r2==1)=rr:=by rw[<-afn.out,h1];rfl
   exact aC.mk' rfl (Grew.of_below hb5)
 case stop =>
  subst ha
  rintro D e pre W hD hr ⟨⟨⟨hB,hb1⟩,hb2⟩,rfl,rfl⟩ hK
  have c1:=hb1.cell
  have c2:=hb2.cell
  have HB:=hide hB
  clear hB hb1 hb2 hr HRR
  gi_wp2_with fail
  refine⟨by simp,.inl ⟨_,_,rfl,run_takeDeferred hK,?_⟩⟩
  have hb5:=HB.out.trans (belowK_b (w:=w) (Nat.le_refl _) _ D _ (.deferred none) (by omega) hK rfl rfl)
  have e3:=(bG (W:=W) (D:=D) (i:=0) (o:=.deferred none) (b:=w.heap.size+1) (by omega)).trans c1
  have e4:=(bG (W:=W) (D:=D) (i:=0) (o:=.deferred none) (b:=w.heap.size+2) (by omega)).trans c2
  refine⟨.tuple #[.bool true,.int .i64 0],by simp[results,Tryz.results212,go_sem,e3,e4],?_⟩
  exact aC.mk' rfl (Grew.of_below hb5)
theorem aad (ps qs:List Pt)(A A':Option Addr)(c c':Nat)(d:Bool×Int)(w:World)(hr:Rd w w.heap.size 2 A (ps.map dY))(hr':Rd w w.heap.size 2 A' (qs.map dY))(hc:ps.length<=100000000000000)(hc':qs.length<=100000000000000)(h:sJ ps qs=d) :
  Calls Tryz.prog 212 #[.slice A ps.length c,.slice A' qs.length c'] w (aC w (.tuple #[.bool d.1,.int .i64 d.2])):=by
 subst h
 unfold sJ
 cases h:dm ps&&dm qs
 ·exact TR ps qs A A' c c' w hr hr' hc hc' h
 ·simp only[Bool.and_eq_true] at h
  exact OW ps qs A A' c c' w hr hr' h.1 h.2
end Go.Proofs.YtlkgjmnjhifehaaGreat
