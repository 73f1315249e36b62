
import Derived.Test.YtlkgjmnjhifehaaGreatKnX
import Derived.Test.YtlkgjmnjhifehaaGreatGrY
import Derived.Test.YtlkgjmnjhifehaaGreatGrZ
import Derived.Test.YtlkgjmnjhifehaaGreatBoQ
import Derived.Test.YtlkgjmnjhifehaaGreatGrM
import Derived.Test.YtlkgjmnjhifehaaGreatGrV
set_option linter.unusedSimpArgs false
set_option linter.unusedVariables false
namespace Go.Proofs.YtlkgjmnjhifehaaGreat
open Go.RowKit Go.Sort
theorem LK {f:FV}{b:B4}{p:Pt}(hf:bf f=true)(hb:okB b=true)(hx:b.1.1<b.1.2)(hy:b.2.1<b.2.2)(hp:inB b p)(hc:fP f p=true):Ak b f=true:=by
 have hv:=Nw hx hy hb
 have hr:kP b=(dh b,0):=by
  unfold kP
  rw[if_pos hb,if_neg (by omega)]
 have hpl:=(yj hx hy p).2 hp
 have hcell:bf (lQ none 0 b)=true:=by
  unfold bf wP lQ
  rw[hr]
  simp[Ey,Bv,hv]
 unfold Ak oC
 rw[if_pos (by rw[hf,hcell];rfl)]
 show ((0:Int)==0&&qg f (lQ none 0 b).area)=true
 rw[show (lQ none 0 b).area=dh b by unfold lQ;rw[hr]]
 unfold fP at hc
 unfold qg
 by_cases h4:f.kind=4
 ·rw[if_pos h4] at hc;cases hc
 rw[if_neg h4] at hc ⊢
 by_cases h3:f.kind=3\/f.kind=6
 ·rw[if_pos h3] at hc ⊢
  unfold EO I7 at hc
  split at hc
  ·rename_i h
   rw[Bool.and_eq_true] at h hc
   have hpv:=h.2
   have h0:0<=placeOf f.area p:=by simpa using hc.2
   unfold uO sJ
   rw[if_pos (by rw[hpv,hv];rfl)]
   have hl:0<f.area.length:=by
    have:=(jH hpv).1
    omega
   rw[H8 hl (show 0<(dh b).length by show 0<4;omega) h0 hpl]
   rfl
  ·simp at hc
 ·rw[if_neg h3] at hc ⊢
  unfold mr kD at hc
  split at hc
  ·rename_i h
   rw[Bool.and_eq_true] at hc
   have hn:=Gx hc.2
   unfold qF
   have hd:qC (dh b) (f.x,f.y) f.dC=(iM (dh b) (f.x,f.y) f.dC,0):=by
    unfold qC
    simp only[Bool.and_eq_true] at h
    rw[if_pos (by simp only[Bool.and_eq_true];exact⟨hv,h.2.1,h.2.2.2⟩)]
   rw[hd]
   have h0:0<=iM (dh b) (f.x,f.y) f.dC:=by
    refine Classical.byContradiction fun hne=>?_
    have hneg:iM (dh b) (f.x,f.y) f.dC=-1:=by
     unfold iM at hne ⊢
     by_cases h7:0<=placeOf (dh b) (f.x,f.y)
     ·rw[if_pos h7] at hne
      split at hne<;>omega
     ·rw[if_neg h7] at hne ⊢
      split at hne
      ·omega
      ·rename_i h8
       rw[if_neg h8]
    have:=(Lp (ps:=dh b) hn).2 hneg
    omega
   simp[h0]
  ·simp at hc
theorem Qw (b:B4):∀ (gs:List FV) (l:Int),gs.foldl (stepD b) l<=l/\∀g∈gs,Ak b g=true->gs.foldl (stepD b) l<=g.dep
 | [],l=>⟨Int.le_refl _,fun g hg=>by cases hg⟩
 | f::gs,l=>by
  obtain⟨h1,h2⟩:=Qw b gs (stepD b l f)
  have hs:stepD b l f<=l:=by
   unfold stepD
   split
   ·exact Int.le_refl _
   ·split
    ·omega
    ·exact Int.le_refl _
  refine⟨Int.le_trans h1 hs,fun g hg hc=>?_⟩
  rcases List.mem_cons.1 hg with rfl|hg
  ·refine Int.le_trans h1 ?_
   unfold stepD
   by_cases hd:l<=g.dep
   ·rw[if_pos hd];exact hd
   ·rw[if_neg hd,if_pos hc];exact Int.le_refl _
  ·exact h2 g hg hc
theorem JY (p:Pt):∀ (gs:List FV) (l:Int),gs.foldl (gG p) l=l\/∃g∈gs,fP g p=true/\gs.foldl (gG p) l=g.dep
 | [],l=>.inl rfl
 | f::gs,l=>by
  have hs:gG p l f=l\/(fP f p=true/\gG p l f=f.dep):=by
   unfold gG
   split
   ·rename_i h
    rw[Bool.and_eq_true] at h
    exact .inr ⟨h.2,rfl⟩
   ·exact .inl rfl
  rcases JY p gs (gG p l f) with h|⟨g,hg,h1,h2⟩
  ·rcases hs with e|⟨e1,e2⟩
   ·exact .inl (h.trans e)
   ·exact .inr ⟨f,List.mem_cons_self ..,e1,h.trans e2⟩
  ·exact .inr ⟨g,List.mem_cons_of_mem _ hg,h1,h2⟩
theorem OI {fs:List FV}{b:B4}{p:Pt}(hl:∀f∈fs,bf f=true)(hb:okB b=true)(hx:b.1.1<b.1.2)(hy:b.2.1<b.2.2)(hp:inB b p):xZ fs b<=kY fs p fs.length:=by
 obtain⟨h1,h2⟩:=Qw b fs 100000
 unfold kY
 rw[List.take_length]
 rcases JY p fs 100000 with e|⟨g,hg,hc,e⟩
 ·rw[e];exact h1
 ·rw[e];exact h2 g hg (LK (hl g hg) hb hx hy hp hc)
theorem V3 (cell:Nat->B4)(cs:List Int)(b:B4)(d:Int)(k:Nat):KE cell cs b d k<=d:=by
 unfold KE
 split<;>omega
theorem least_le {cell:Nat->B4}{cs:List Int}{b:B4}{c:Nat}(hm:qo (cell c) b=true):∀n,c<n->nX cell cs b n<=xH cs c
 | 0,h=>by omega
 | n+1,h=>by
  rw[Es]
  rcases Nat.lt_or_eq_of_le (Nat.le_of_lt_succ h) with h1|rfl
  ·exact Int.le_trans (V3 ..) (least_le hm n h1)
  ·unfold KE
   rw[if_pos hm]
   omega
theorem VS {a:B4}{p:Pt}(h:inB a p):qo a ((p.1,p.1),(p.2,p.2))=true:=by
 unfold inB at h
 unfold qo
 rw[Bool.and_eq_true,decide_eq_true_eq,decide_eq_true_eq]
 dsimp only
 omega
theorem Zk {fs:List FV}{cx cy sz:Int}{gw gh c:Nat}(hc:c<gw*gh):xH (gridOf fs cx cy sz gw gh) c=xZ fs (cellAt cx cy sz gw c):=by
 unfold xH gridOf
 rw[List.getD_eq_getElem?_getD,List.getElem?_map,List.getElem?_range hc]
 rfl
theorem Uy {gw gh f to k:Nat}{cs o:List Int}{need:Int}(hw:1<=gw)(hf:f<gw*gh)(ht:to<gw*gh)(hk:oW gw gh cs need k (kz (gw*gh) to)=(o,[]))(h0:0<=o.getD f 0)(hto:need<=cs.getD to 0) :
  ∀c∈vH o gw gh f,c<gw*gh/\need<=xH cs c:=by
 have hp:wS gw gh to cs need o:=by
  have:=(zB (cs:=cs) (need:=need) hw ht k).2
  rwa [hk] at this
 intro c hc
 obtain⟨j,hj,rfl⟩:=List.mem_map.1 hc
 rw[List.mem_range] at hj
 obtain⟨h1,h2⟩:=Oy hp hw hf j (by omega)
 refine⟨h1,?_⟩
 rcases hp.deep _ h1 (by omega) with e|e
 ·rw[e];exact hto
 ·exact e
theorem Yu {gw gh f to k:Nat}{cs o:List Int}{need:Int}(hw:1<=gw)(hf:f<gw*gh)(ht:to<gw*gh)(hk:oW gw gh cs need k (kz (gw*gh) to)=(o,[])):(vH o gw gh f).length<=gw*gh+1:=by
 have hq:qJ (gw*gh) (o,[]):=by
  have:=(zB (cs:=cs) (need:=need) hw ht k).1
  rwa [hk] at this
 have:=hq.bd _ (getD_mem (show f<o.length by rw[hq.len];exact hf))
 dsimp only at this
 unfold vH
 rw[List.length_map,List.length_range]
 omega
def Wv (b:B4)(p:Pt):Bool:=decide ((b.1.1<=p.1/\p.1<=b.1.2)/\(b.2.1<=p.2/\p.2<=b.2.2))
theorem Yv {ss:List So}{fs fa:List FV}{most need d:Int}{MP:List Pt}{p:Pt}{cx cy sz:Int}{nw nh c:Nat}{is:Bool}{ka:Int}(hs:oV ss fs=true)(hp:uT (dH fs (jC ss) (jC ss).length) fa most MP)(hnm:need<=most)
  (hf:fA cx cy sz nw nh=true) (hc:c<nw*nh) (hin:Wv (cellAt cx cy sz nw c) p=true) (hd:need<=xH (gridOf fa cx cy sz nw nh) c) (ha:qG ss fs p d=(is,ka)) :
  okB ((p.1,p.1),(p.2,p.2))=true/\nJ ((p.1,p.1),(p.2,p.2)) (allB cx cy sz nw nh)=(true,0)/\ka=0/\∃there,xk fa p=(there,0)/\nX (cellAt cx cy sz nw) (gridOf fa cx cy sz nw nh) ((p.1,p.1),(p.2,p.2)) (nw*nh)<=there/\need<=there /\
   (is=true->Dl (dH fs (jC ss) (jC ss).length) p=true->need<=d):=by
 unfold Wv at hin
 rw[decide_eq_true_eq] at hin
 have hin':inB (cellAt cx cy sz nw c) p:=hin
 obtain⟨h1,h2,h3,h4⟩:=Qx hf hc
 obtain⟨h5,h6⟩:=h4 p hin'
 have hb:okB ((p.1,p.1),(p.2,p.2))=true:=by
  unfold Pt.ok lh at h6
  rw[decide_eq_true_eq] at h6
  unfold okB
  rw[decide_eq_true_eq]
  dsimp only
  omega
 have hall:okB (allB cx cy sz nw nh)=true:=by
  unfold fA at hf
  rw[Bool.and_eq_true,Bool.and_eq_true] at hf
  exact hf.2.2
 have hw:nJ ((p.1,p.1),(p.2,p.2)) (allB cx cy sz nw nh)=(true,0):=by
  unfold nJ
  rw[if_pos (by rw[hb,hall];rfl)]
  unfold inB at h5
  have:GR ((p.1,p.1),(p.2,p.2)) (allB cx cy sz nw nh)=allB cx cy sz nw nh:=by
   unfold GR
   generalize allB cx cy sz nw nh=b at *
   obtain⟨⟨a1,a2⟩,⟨a3,a4⟩⟩:=b
   dsimp only at h5 ⊢
   simp only[Prod.mk.injEq]
   omega
  rw[this,decide_eq_true rfl]
 have hsh:xk fa p=(kY fa p fa.length,0):=by
  unfold xk
  rw[if_pos (by rw[hp.lg,h6];rfl)]
 have hcs:=OI (p:=p) (fs:=fa) (fB hp.lg) h1 h2 h3 hin'
 rw[<-Zk hc] at hcs
 have hle:=least_le (cell:=cellAt cx cy sz nw) (cs:=gridOf fa cx cy sz nw nh) (VS hin') _ hc
 have hka:ka=0:=by
  unfold qG at ha
  rw[if_pos (by rw[hs,h6];rfl)] at ha
  injection ha with _ ha
  exact ha.symm
 subst hka
 refine⟨hb,hw,rfl,_,hsh,by omega,by omega,fun hi hk=>?_⟩
 have hds:kU fa most p=(min (kY fa p fa.length) most,0):=by
  unfold kU
  rw[if_pos (by rw[hp.lg,hp.lm,h6];rfl)]
 have:=(KJ hs hp ha hds).2 hi hk
 omega
end Go.Proofs.YtlkgjmnjhifehaaGreat
set_option maxHeartbeats 16000000
set_option maxRecDepth 100000
namespace Go.Proofs.YtlkgjmnjhifehaaGreat
open Go.RowKit Go.Sort Go.Lib
attribute [local go_sem] dA steadyUpon
attribute [local go_sem ↓] bU bI aX aW aV aU aT
attribute [local go_sem] bH aK aJ size_grow tape_grow cell?_grow' aF aB grow_grow bW aY dR cO bY bK aN cZ aZ bZ bJ
attribute [local irreducible] wpSteady
theorem abu {ws:List Nat}{k:Nat}(h:k<ws.length):xH (ws.map fun d:Nat=>(d:Int)) k=((ws.getD k 0:Nat):Int):=by
 unfold xH
 rw[List.getD_eq_getElem?_getD,List.getD_eq_getElem?_getD,List.getElem?_map,List.getElem?_eq_getElem h]
 rfl
theorem Yt {ws:List Nat}{k:Nat}(h:k<ws.length):ws.getD k 0∈ws:=by
 rw[List.getD_eq_getElem?_getD,List.getElem?_eq_getElem h]
 exact List.getElem_mem h
theorem XL {q:Nat->Bool}{ws:List Nat}{k:Nat}{b:Bool}(hk:k<ws.length)(h:(ws.take k).any q=b):(ws.take (k+1)).any q=(b||q (ws.getD k 0)):=by
 rw[List.take_add_one,List.any_append,h,List.getD_eq_getElem?_getD,List.getElem?_eq_getElem hk]
 simp
theorem Yp (need fr to:Int):¬ Ip ⟨0,0,0,0,0,none,0,[]⟩ need fr to:=by
 intro h
 have:=h.1
 simp[vT,rQ,fA,qf] at this
theorem MX (ss:List So)(fs:List FV)(A A':Option Addr)(c c':Nat)(rs:List Ru)(Ar:Option Addr)(cr:Nat)(q:Pt)(sz wd ht need fr to:Int)(p:Pt)(d:Int)(w:World)(hrs:Rd w w.heap.size 7 A (ss.map So.cells))(hr:nI w w.heap.size A' fs)(hc:ss.length<=100000000000000/\fs.length<=100000000000000)
  (hru:Rd w w.heap.size 3 Ar (rs.map encR)) (hcr:rs.length<=100000000000000) :
  Calls Tryz.prog 3 #[svV A ss.length c A' fs.length c',.slice Ar rs.length cr,pt q.1 q.2,.int .i64 sz,.int .i64 wd,.int .i64 ht,.int .i64 need,.int .i64 fr,.int .i64 to,pt p.1 p.2,.int .i64 d] w (aC w (.bool true)):=by
 have hm:=aP
 obtain⟨p1,p2⟩:=p
 obtain⟨q1,q2⟩:=q
 obtain⟨n,hn⟩:∃n,ss.length=n:=⟨_,rfl⟩
 obtain⟨n',hn'⟩:∃n,fs.length=n:=⟨_,rfl⟩
 obtain⟨nr,hnr⟩:∃n,rs.length=n:=⟨_,rfl⟩
 have kh:=hide (fun W=>WS W)
 have kf:=hide (fun W=>YK n n' c c' A A' _ W rfl)
 have HRS:=hide hrs
 have HR:=hide hr
 have HRU:=hide hru
 have HN:=hide hn
 have HN':=hide hn'
 have HNR:=hide hnr
 rw[hn,hn',hnr]
 rw[hn,hn'] at hc
 rw[hnr] at hcr
 clear hrs hr hru hn hn' hnr
 unfold svV at kf ⊢
 dsimp only
 by_cases hfew:n<=16/\n'<=12
 rotate_left
 ·simp only[decide_eq_false hfew] at kf
  go_enter Tryz.func3,Tryz.ntmps3
  go_wp2_with (first|(go_at_call 5;with_reducible refine aQ (kh.out _) fun _ _=>?_;dsimp only)|(go_at_call 6;with_reducible refine aQ (kf.out _) fun _ _=>?_;dsimp only))
  go_ret
  exact aC.mk' rfl gw
 simp only[decide_eq_true hfew] at kf
 have hcase:¬ nr<=10\/(nr<=10/\12<wd)\/(nr<=10/\¬ 12<wd/\12<ht)\/(nr<=10/\¬ 12<wd/\¬ 12<ht):=by omega
 rcases hcase with h10|⟨h10,hwd⟩|⟨h10,hwd,hht⟩|⟨h10,hwd,hht⟩
 ·go_enter Tryz.func3,Tryz.ntmps3
  go_wp2_with (first|(go_at_call 5;with_reducible refine aQ (kh.out _) fun _ _=>?_;dsimp only)|(go_at_call 6;with_reducible refine aQ (kf.out _) fun _ _=>?_;dsimp only))
  go_ret
  exact aC.mk' rfl gw
 ·go_enter Tryz.func3,Tryz.ntmps3
  go_wp2_with (first|(go_at_call 5;with_reducible refine aQ (kh.out _) fun _ _=>?_;dsimp only)|(go_at_call 6;with_reducible refine aQ (kf.out _) fun _ _=>?_;dsimp only))
  go_ret
  exact aC.mk' rfl gw
 ·go_enter Tryz.func3,Tryz.ntmps3
  go_wp2_with (first|(go_at_call 5;with_reducible refine aQ (kh.out _) fun _ _=>?_;dsimp only)|(go_at_call 6;with_reducible refine aQ (kf.out _) fun _ _=>?_;dsimp only))
  go_ret
  exact aC.mk' rfl gw
 go_enter Tryz.func3,Tryz.ntmps3
 go_wp2_with (first|(go_at_call 5;with_reducible refine aQ (kh.out _) fun _ _=>?_;dsimp only)|(go_at_call 6;with_reducible refine aQ (kf.out _) fun _ _=>?_;dsimp only))
 refine ny ?_
 intro X hX
 have Ug:Grew w X:=by rw[<-hX];exact gw
 have hbx:Bx X w.heap.size [.cells #[.slice A n c,.slice A' n' c'] 25 (0,0),.cells #[.int .i64 q1,.int .i64 q2] 28 (0,0),.cells #[.int .i64 p1,.int .i64 p2] 28 (0,0)]:=by
  rw[<-hX]
  refine (Bx.lT _ w).1.grew ?_
  simp only[List.foldl]
  exact gw
 have HX:=hide Ug
 have mF:=hide hbx
 clear hX Ug hbx
 by_cases hv:oV ss fs=true
 rotate_left
 ·have km:=JB ss fs A A' c c' X (HRS.out.up HX.out) (HR.out.up HX.out) (by rw[HN.out];omega) (by rw[HN'.out];omega)
  rw[show uo ss fs=([],1) by unfold uo;rw[if_neg hv],HN.out,HN'.out] at km
  refine km.mono ?_
  clear km
  rintro e W1 ⟨A1,c1,rfl,hr1,hg1⟩
  dsimp only
  obtain⟨⟨⟨ch,MP⟩,f⟩,hmk⟩:∃r,kE [] rs=r:=⟨_,rfl⟩
  obtain⟨⟨most,g⟩,hcp⟩:∃r,capOf rs=r:=⟨_,rfl⟩
  have kk:=hide (fun W (hg:Grew W1 W)=>OY [] rs A1 Ar c1 cr W (hr1.up hg) (HRU.out.up ((HX.out.trans hg1).trans hg)) (by simp) (by rw[HNR.out];omega))
  have kc:=hide (fun W (hg:Grew W1 W)=>JA rs Ar cr (most,g) W (HRU.out.up ((HX.out.trans hg1).trans hg)) (by rw[HNR.out];omega) hcp)
  rw[hmk,HNR.out] at kk
  rw[HNR.out] at kc
  dsimp only[List.length_nil] at kk kc ⊢
  have jE:Hid (Grew w W1):=hide (HX.out.trans hg1)
  clear hr1 hg1 hmk hcp
  go_wp2_with fail
  refine (kk.out _ gw).mono ?_
  rintro e W2 ⟨A2,c2,fa,B2,d2,rfl,_,_,_,hg2⟩
  have HG2:Hid (Grew W1 W2):=hide (Grew.trans gw hg2)
  clear hg2
  dsimp only
  go_wp2_with (go_at_call 9;with_reducible refine aQ (kc.out _ (HG2.out.trans gw)) fun _ _=>?_;dsimp only)
  go_ret
  exact aC.mk' rfl ((jE.out.trans HG2.out).trans gw)
 obtain⟨md,hmd⟩:∃m,dH fs (jC ss) (jC ss).length=m:=⟨_,rfl⟩
 have hml:=Ef hv
 rw[hmd] at hml
 have hmn:md.length<=300:=by
  unfold bQ at hml
  rw[Bool.and_eq_true,decide_eq_true_eq] at hml
  exact hml.2
 have km:=JB ss fs A A' c c' X (HRS.out.up HX.out) (HR.out.up HX.out) (by rw[HN.out];omega) (by rw[HN'.out];omega)
 rw[show uo ss fs=(md,0) by unfold uo;rw[if_pos hv,hmd],HN.out,HN'.out] at km
 refine km.mono ?_
 clear km
 rintro e W1 ⟨A1,c1,rfl,hr1,hg1⟩
 dsimp only at hr1 ⊢
 obtain⟨⟨⟨ch,MP⟩,f⟩,hmk⟩:∃r,kE md rs=r:=⟨_,rfl⟩
 obtain⟨⟨most,g⟩,hcp⟩:∃r,capOf rs=r:=⟨_,rfl⟩
 have kk:=hide (fun W (hg:Grew W1 W)=>OY md rs A1 Ar c1 cr W (hr1.up hg) (HRU.out.up ((HX.out.trans hg1).trans hg)) (by omega) (by rw[HNR.out];omega))
 have kc:=hide (fun W (hg:Grew W1 W)=>JA rs Ar cr (most,g) W (HRU.out.up ((HX.out.trans hg1).trans hg)) (by rw[HNR.out];omega) hcp)
 rw[hmk,HNR.out] at kk
 rw[HNR.out] at kc
 dsimp only at kk kc ⊢
 have jE:Hid (Grew X W1):=hide hg1
 have HR1:=hide hr1
 have Uj:=hide hmk
 have HCP:=hide hcp
 have HMD:=hide hmd
 have HML:=hide hml
 obtain⟨nm,hnm⟩:∃n,md.length=n:=⟨_,rfl⟩
 rw[hnm] at kk ⊢
 have HNM:=hide hnm
 clear hr1 hg1 hmk hcp hmd hml hnm
 go_wp2_with fail
 refine (kk.out _ gw).mono ?_
 rintro e W2 ⟨A2,c2,fa,B2,d2,rfl,hbare,hr2,hp2,hg2⟩
 have HG2:Hid (Grew W1 W2):=hide (Grew.trans gw hg2)
 have HR2:=hide hr2
 have HBA:=hide hbare
 obtain⟨na,hna⟩:∃n,fa.length=n:=⟨_,rfl⟩
 obtain⟨np,hnp⟩:∃n,MP.length=n:=⟨_,rfl⟩
 clear hg2 hr2 hp2 hbare
 dsimp only
 rw[hna,hnp]
 have HNA:=hide hna
 clear hna hnp
 go_upto_region 7 with (go_at_call 9;with_reducible refine aQ (kc.out _ (HG2.out.trans gw)) fun _ _=>?_;dsimp only)
 have hcase:(f=3/\g=0)\/(f=1/\g=1)\/(f=0/\g=0):=by
  rcases En HML.out Uj.out with⟨e,h1,_⟩|⟨e,h1⟩|⟨e,h1⟩<;>rcases XB HCP.out with⟨h2,e2⟩|⟨h2,e2⟩<;>first|(simp[e,e2];done)|(rw[h1] at h2;cases h2)
 have HGS:Hid (Grew w W2):=hide ((HX.out.trans jE.out).trans HG2.out)
 have Ol:(f=3/\g=0)\/(f=1/\g=1)\/(f=0/\g=0/\most<need)\/(f=0/\g=0/\¬ most<need):=by omega
 clear hcase
 rcases Ol with⟨rfl,rfl⟩|⟨rfl,rfl⟩|⟨rfl,rfl,hmo⟩|⟨rfl,rfl,hmo⟩
 ·go_wp2_with fail
  go_ret
  exact aC.mk' rfl (HGS.out.trans gw)
 ·go_wp2_with fail
  go_ret
  exact aC.mk' rfl (HGS.out.trans gw)
 ·go_wp2_with fail
  go_ret
  exact aC.mk' rfl (HGS.out.trans gw)
 have hpr:uT md fa most MP:=by
  rcases En HML.out Uj.out with⟨_,_,_,h⟩|⟨e,_⟩|⟨e,_⟩
  ·rw[HCP.out] at h
   exact Ko HBA.out.symm h
  ·exact absurd e (by decide)
  ·exact absurd e (by decide)
 have hfl:fa.length<=300:=by
  have:=hpr.lg
  unfold bQ at this
  rw[Bool.and_eq_true,decide_eq_true_eq] at this
  exact this.2
 have ajv:na<=300:=by rw[<-HNA.out];exact hfl
 have ajt:nm<=300:=by rw[<-HNM.out];exact hmn
 have HV:=hide hv
 have HPR:=hide hpr
 clear hv hpr hfl hmn kk kc
 have b5:W2.heap[w.heap.size+1]?=some (.cells #[.int .i64 q1,.int .i64 q2] 28 (0,0)):=mF.out.grew (jE.out.trans HG2.out) 1 _ rfl
 have e0:=ag b5 0
 have e1:=ag b5 1
 have l5:=au b5
 clear b5
 by_cases hfr:fA q1 q2 sz wd ht=true
 rotate_left
 ·have km:=hide (fun W (hg:Grew W2 W)=>aaj fa A2 c2 q1 q2 sz wd ht W (HR2.out.up hg) (by rw[HNA.out];omega) (by rw[Bool.eq_false_iff.2 hfr];rfl))
  have kp:=hide (fun W=>QH ⟨0,0,0,0,0,none,0,[]⟩ need fr to W (Rd.nil _ _ _ _) (by simp) (Yp need fr to))
  rw[HNA.out] at km
  unfold Gr.val at km kp
  dsimp only[List.length_nil] at km kp
  go_wp2_with (first|(go_at_call 10;with_reducible refine aQ (km.out _ gw) fun _ _=>?_;dsimp only)|(go_at_call 11;with_reducible refine aQ (kp.out _) fun _ _=>?_;dsimp only))
  go_ret
  exact aC.mk' rfl (HGS.out.trans gw)
 obtain⟨⟨hsd,ajj,ajy⟩,_⟩:=wF hfr
 obtain⟨nw,rfl⟩:∃k:Nat,wd=k:=⟨wd.toNat,by omega⟩
 obtain⟨nh,rfl⟩:∃k:Nat,ht=k:=⟨ht.toNat,by omega⟩
 have km:=hide (fun W (hg:Grew W2 W)=>MG fa A2 c2 q1 q2 sz nw nh W (HR2.out.up hg) hfr HPR.out.lg)
 rw[HNA.out] at km
 obtain⟨cs,hcs⟩:∃l,gridOf fa q1 q2 sz nw nh=l:=⟨_,rfl⟩
 obtain⟨nc,hnc⟩:∃n,cs.length=n:=⟨_,rfl⟩
 have aes:nc=nw*nh:=by
  rw[<-hnc,<-hcs]
  unfold gridOf
  rw[List.length_map,List.length_range]
 have aju:nc<=144:=by
  have:nw*nh<=12*12:=Nat.mul_le_mul (by omega) (by omega)
  omega
 rw[hcs] at km
 have HCS:=hide hcs
 have TZ:=hide hnc
 have X0:=hide aes
 have HFR:=hide hfr
 clear hcs hnc aes hfr
 go_wp2_with fail
 refine (km.out _ gw).mono ?_
 clear km
 rintro e W3 ⟨A3,c3,rfl,agG,hz3,hg3⟩
 have vF:Hid (Grew W2 W3):=hide (Grew.trans gw hg3)
 have HZ3:=hide hz3
 clear hz3 hg3 e0 e1 l5 agG
 unfold Gr.val
 dsimp only
 rw[TZ.out]
 by_cases hpo:Ip ⟨q1,q2,sz,nw,nh,A3,c3,cs⟩ need fr to
 rotate_left
 ·have kp:=hide (fun W (hg:Grew W3 W)=>QH ⟨q1,q2,sz,nw,nh,A3,c3,cs⟩ need fr to W (HZ3.out.up hg) (show cs.length<=100000000000000 by rw[TZ.out];omega) hpo)
  unfold Gr.val at kp
  dsimp only at kp
  rw[TZ.out] at kp
  go_wp2_with (go_at_call 11;with_reducible refine aQ (kp.out _ gw) fun _ _=>?_;dsimp only)
  go_ret
  exact aC.mk' rfl ((HGS.out.trans vF.out).trans gw)
 obtain⟨hno,⟨hf1,hf2⟩,ht1,ht2⟩:=hpo
 dsimp only at hf2 ht2
 rw[TZ.out] at hf2 ht2
 obtain⟨f0,rfl⟩:∃k:Nat,fr=k:=⟨fr.toNat,by omega⟩
 obtain⟨t0,rfl⟩:∃k:Nat,to=k:=⟨to.toNat,by omega⟩
 have hf3:f0<nw*nh:=by rw[<-X0.out];omega
 have ht3:t0<nw*nh:=by rw[<-X0.out];omega
 have kp:=hide (fun W (hg:Grew W3 W)=>OU q1 q2 sz nw nh A3 c3 cs need f0 t0 W (HZ3.out.up hg) (by omega) (by omega) (TZ.out.trans X0.out) hf3 ht3 hno)
 unfold Gr.val at kp
 dsimp only at kp
 rw[TZ.out] at kp
 go_wp2_with fail
 refine (kp.out _ gw).mono ?_
 clear kp
 rintro e W4 ⟨k4,o4,hk4,hg4,hres⟩
 rcases hres with⟨_,rfl⟩|⟨⟨hd1,hd2,hd3⟩,A4,c4,rfl,hr4⟩
 ·have qK:Hid (Grew W3 W4):=hide (Grew.trans gw hg4)
  clear hg4 hk4
  dsimp only
  go_wp2_with fail
  go_ret
  exact aC.mk' rfl (((HGS.out.trans vF.out).trans qK.out).trans gw)
 have WT:=Uy (by omega) hf3 ht3 hk4 hd3 hd2
 obtain⟨ws,hws⟩:∃l,vH o4 nw nh f0=l:=⟨_,rfl⟩
 have hwl:=Yu (by omega) hf3 ht3 hk4
 rw[hws] at hr4 WT hwl ⊢
 obtain⟨nx,hnx⟩:∃n,ws.length=n:=⟨_,rfl⟩
 rw[hnx] at hwl ⊢
 have ajs:nx<=145:=by rw[<-X0.out] at hwl;omega
 have HR4:Hid (Rd W4 W4.heap.size 1 A4 ((ws.map fun d:Nat=>(d:Int)).map encZ)):=hide (by rw[List.map_map];exact hr4)
 have Ht:=hide hnx
 have abp:=hide WT
 have hbn:W4.heap[W3.heap.size]?=some (.cells #[.int .i64 q1,.int .i64 q2,.int .i64 sz,.int .i64 (nw:Int),.int .i64 (nh:Int),.slice A3 nc c3] 41 (0,0)):=(hg4.heap (by simp)).trans (heap_alloc_new W3 _)
 have qK:Hid (Grew W3 W4):=hide (Grew.trans gw hg4)
 have HBN:=hide hbn
 have hgv:rQ ⟨q1,q2,sz,nw,nh,A3,c3,cs⟩=true:=by
  unfold vT at hno
  rw[Bool.and_eq_true] at hno
  exact hno.1
 have kv:=hide (fun W (hg:Grew W3 W)=>NG ⟨q1,q2,sz,nw,nh,A3,c3,cs⟩ W (HZ3.out.up hg) hgv)
 unfold Gr.val at kv
 dsimp only at kv
 rw[TZ.out] at kv
 have HGV:=hide hgv
 have MK:=hide hno
 have g0:=ag hbn 0
 have g1:=ag hbn 1
 have g2:=ag hbn 2
 have g3:=ag hbn 3
 have g4:=ag hbn 4
 have g5:=ag hbn 5
 have lg:=au hbn
 clear hwl hr4 hnx WT hbn hg4 hgv hno hk4 hws hd1 hd2 hd3
 dsimp only
 go_wp2_with (go_at_call 12;with_reducible refine aQ (kv.out _ (qK.out.trans gw)) fun _ _=>?_;dsimp only)
 refine fC ?_
 intro W5 hW
 have hg5:Grew W4 W5:=by rw[<-hW];exact gw
 have vC:=hide hg5
 clear hW hg5 g0 g1 g2 g3 g4 g5 lg kv
 obtain⟨Z,hZ⟩:∃Z,W3.heap.size=Z:=⟨_,rfl⟩
 rw[hZ] at HBN ⊢
 have HZZ:=hide hZ
 clear hZ
 have HGT:Hid (Grew w W5):=hide (((HGS.out.trans vF.out).trans qK.out).trans vC.out)
 have HB6:Hid (W5.heap[w.heap.size+1+1]?=some (.cells #[.int .i64 p1,.int .i64 p2] 28 (0,0))):=hide (mF.out.grew ((((jE.out.trans HG2.out).trans vF.out).trans qK.out).trans vC.out) 2 _ rfl)
 have HB4:Hid (W5.heap[w.heap.size]?=some (.cells #[.slice A n c,.slice A' n' c'] 25 (0,0))):=hide (mF.out.grew ((((jE.out.trans HG2.out).trans vF.out).trans qK.out).trans vC.out) 0 _ rfl)
 have afG:=hide ((vC.out.heap (au HBN.out)).trans HBN.out)
 go_loopw [35,125] (fun u i wr=>∃ (j:Nat) (b:Bool),j<=nx/\u=.bool b/\i=.int .i64 j/\Hid (Grew W5 wr)/\Hid ((ws.take j).any (fun k=>Wv (cellAt q1 q2 sz nw k) (p1,p2))=b)) (fun _ i _=>nx-(intOf i).toNat)
 case atStart=>exact⟨0,false,by omega,rfl,rfl,hide (Grew.refl _),hide rfl⟩
 case round =>
  obtain⟨j,b,hj,rfl,rfl,hG,hT⟩:=hrel
  have bn:=(hG.out.heap (au afG.out)).trans afG.out
  have b6:=(hG.out.heap (au HB6.out)).trans HB6.out
  have g0:=ag bn 0
  have g1:=ag bn 1
  have g2:=ag bn 2
  have g3:=ag bn 3
  have g4:=ag bn 4
  have g5:=ag bn 5
  have lg:=au bn
  have s0:=ag b6 0
  have s1:=ag b6 1
  have ls:=au b6
  clear bn b6
  by_cases hlt:j<nx
  ·have hlt2:j<ws.length:=by rw[Ht.out];exact hlt
   obtain⟨b1,o1,hA,hb1,hc1⟩:=Hz (HR4.out.up (vC.out.trans hG.out)) (k:=j) (by rw[List.length_map];exact hlt2)
   rw[abu hlt2] at hc1
   have hix:=aO (cap:=c4) Tryz.underlying39 Tryz.sizeOf3 hA.out hlt
   rw[Nat.mul_one] at hix
   have hx:=(abp.out _ (Yt hlt2)).1
   have hst:=XL hlt2 hT.out
   generalize ws.getD j 0=x at *
   have kc:=hide (fun W=>Rn q1 q2 sz nw nh x A3 nc c3 W HFR.out hx)
   obtain⟨⟨⟨u1,u2⟩,⟨u3,u4⟩⟩,hb⟩:∃b,cellAt q1 q2 sz nw x=b:=⟨_,rfl⟩
   rw[hb] at kc hst
   have x1:¬ (x:Int)<0:=by omega
   have x2:¬ (nc:Int)<=(x:Int):=by rw[X0.out];omega
   have hx4:x<=144:=by omega
   have hcase:b=true\/(b=false/\¬ u1<=p1)\/(b=false/\u1<=p1/\¬ p1<=u2)\/(b=false/\u1<=p1/\p1<=u2/\¬ u3<=p2)\/(b=false/\u1<=p1/\p1<=u2/\u3<=p2/\¬ p2<=u4)\/(b=false/\u1<=p1/\p1<=u2/\u3<=p2/\p2<=u4):=by
    cases b<;>simp;omega
   unfold Wv at hst
   dsimp only at hst
   have HST:=hide hst
   clear hst hb hA hT hx hlt2
   rcases hcase with rfl|⟨rfl,h1⟩|⟨rfl,h1,h2⟩|⟨rfl,h1,h2,h3⟩|⟨rfl,h1,h2,h3,h4⟩|⟨rfl,h1,h2,h3,h4⟩
   ·have HS2:=hide (HST.out.trans (by simp:_=true))
    clear HST
    go_wp2_with (go_at_call 13;with_reducible refine aQ (kc.out _) fun _ _=>?_;dsimp only)
    go_roundw
    case rel=>exact⟨j+1,true,by omega,by simp,by go_num,hide (hG.out.trans gw),HS2⟩
    case measure=>simp[intOf];omega
   ·have HS2:=hide (HST.out.trans (by simp[h1]:_=false))
    clear HST
    go_wp2_with (go_at_call 13;with_reducible refine aQ (kc.out _) fun _ _=>?_;dsimp only)
    go_roundw
    case rel=>exact⟨j+1,false,by omega,by simp[h1],by go_num,hide (hG.out.trans gw),HS2⟩
    case measure=>simp[intOf];omega
   ·have HS2:=hide (HST.out.trans (by simp[h2]:_=false))
    clear HST
    go_wp2_with (go_at_call 13;with_reducible refine aQ (kc.out _) fun _ _=>?_;dsimp only)
    go_roundw
    case rel=>exact⟨j+1,false,by omega,by simp[h2],by go_num,hide (hG.out.trans gw),HS2⟩
    case measure=>simp[intOf];omega
   ·have HS2:=hide (HST.out.trans (by simp[h3]:_=false))
    clear HST
    go_wp2_with (go_at_call 13;with_reducible refine aQ (kc.out _) fun _ _=>?_;dsimp only)
    go_roundw
    case rel=>exact⟨j+1,false,by omega,by simp[h3],by go_num,hide (hG.out.trans gw),HS2⟩
    case measure=>simp[intOf];omega
   ·have HS2:=hide (HST.out.trans (by simp[h4]:_=false))
    clear HST
    go_wp2_with (go_at_call 13;with_reducible refine aQ (kc.out _) fun _ _=>?_;dsimp only)
    go_roundw
    case rel=>exact⟨j+1,false,by omega,by simp[h4],by go_num,hide (hG.out.trans gw),HS2⟩
    case measure=>simp[intOf];omega
   ·have HS2:=hide (HST.out.trans (by simp[h1,h2,h3,h4]:_=true))
    clear HST
    go_wp2_with (go_at_call 13;with_reducible refine aQ (kc.out _) fun _ _=>?_;dsimp only)
    go_roundw
    case rel=>exact⟨j+1,true,by omega,by simp[h4],by go_num,hide (hG.out.trans gw),HS2⟩
    case measure=>simp[intOf];omega
  ·obtain rfl:j=nx:=by omega
   cases b
   ·go_wp2_with fail
    go_ret
    exact aC.mk' rfl ((HGT.out.trans hG.out).trans gw)
   ·have hon:∃k∈ws,Wv (cellAt q1 q2 sz nw k) (p1,p2)=true:=by
     have h1:=hT.out
     rw[<-Ht.out,List.take_length] at h1
     exact List.any_eq_true.1 h1
    obtain⟨ck,hck,hin⟩:=hon
    obtain⟨hd1,hd2⟩:=abp.out ck hck
    obtain⟨⟨is,ka⟩,ha⟩:∃u,qG ss fs (p1,p2) d=u:=⟨_,rfl⟩
    obtain⟨Fq,hwi,rfl,there,hsh,hle,hnd,acf⟩:=Yv HV.out (by rw[HMD.out];exact HPR.out) (by omega) HFR.out hd1 hin (by rw[HCS.out];exact hd2) ha
    rw[HMD.out] at acf
    rw[HCS.out] at hle
    have hgk:Grew w wr:=HGT.out.trans hG.out
    have aeE:Grew W4 wr:=vC.out.trans hG.out
    have aci:Grew W3 wr:=qK.out.trans aeE
    have SE:Grew W2 wr:=vF.out.trans aci
    have aeF:Grew W1 wr:=HG2.out.trans SE
    have kle:=hide (fun W (hg:Grew wr W)=>aak q1 q2 sz nw nh A3 c3 cs ((p1,p1),(p2,p2)) W (HZ3.out.up (aci.trans hg)) HGV.out Fq hwi)
    have V9:=hide (fun W (hg:Grew wr W)=>QG fa A2 c2 (p1,p2) (there,0) W (HR2.out.up (SE.trans hg)) (by rw[HNA.out];omega) hsh)
    have kal:=hide (fun W (hg:Grew wr W)=>Yf ss fs A A' c c' (p1,p2) d (is,0) W (HRS.out.up (hgk.trans hg)) (HR.out.up (hgk.trans hg)) (by rw[HN.out];omega) (by rw[HN'.out];omega) ha)
    rw[TZ.out] at kle
    rw[HNA.out] at V9
    rw[HN.out,HN'.out] at kal
    unfold svV at kal
    dsimp only at kle V9 kal
    obtain⟨lst,aex⟩:∃l,nX (cellAt q1 q2 sz nw) cs ((p1,p1),(p2,p2)) (nw*nh)=l:=⟨_,rfl⟩
    rw[aex] at kle hle
    have b4:=(hG.out.heap (au HB4.out)).trans HB4.out
    have t0':=ag b4 0
    have t1':=ag b4 1
    have l4:=au b4
    have Ul:=hide hgk
    have ahD:=hide aeF
    have ahA:=hide acf
    clear b4 hgk aeE aci SE aeF ha hsh aex acf Fq hwi hin hck hd1 hd2 hT
    cases is
    ·go_wp2_with (first|(go_at_call 14;with_reducible refine aQ (kle.out _ gw) fun _ _=>?_;dsimp only)|(go_at_call 15;with_reducible refine aQ (V9.out _ gw) fun _ _=>?_;dsimp only)|(go_at_call 16;with_reducible refine aQ (kal.out _ gw) fun _ _=>?_;dsimp only))
     go_ret
     exact aC.mk' (by simp[hle,hnd]) (Ul.out.trans gw)
    ·obtain⟨kn,hkn⟩:∃b,Dl md (p1,p2)=b:=⟨_,rfl⟩
     have kkn:=hide (fun W (hg:Grew wr W)=>Y4 md A1 c1 (p1,p2) kn W (HR1.out.up (ahD.out.trans hg)) (by rw[HNM.out];omega) hkn)
     rw[HNM.out] at kkn
     dsimp only at kkn
     have HKN:=hide hkn
     clear hkn
     cases kn
     ·go_wp2_with (first|(go_at_call 14;with_reducible refine aQ (kle.out _ gw) fun _ _=>?_;dsimp only)|(go_at_call 15;with_reducible refine aQ (V9.out _ gw) fun _ _=>?_;dsimp only)|(go_at_call 16;with_reducible refine aQ (kal.out _ gw) fun _ _=>?_;dsimp only)|(go_at_call 17;with_reducible refine aQ (kkn.out _ gw) fun _ _=>?_;dsimp only))
      go_ret
      exact aC.mk' (by simp[hle,hnd]) (Ul.out.trans gw)
     ·have htd:need<=d:=ahA.out rfl HKN.out
      go_wp2_with (first|(go_at_call 14;with_reducible refine aQ (kle.out _ gw) fun _ _=>?_;dsimp only)|(go_at_call 15;with_reducible refine aQ (V9.out _ gw) fun _ _=>?_;dsimp only)|(go_at_call 16;with_reducible refine aQ (kal.out _ gw) fun _ _=>?_;dsimp only)|(go_at_call 17;with_reducible refine aQ (kkn.out _ gw) fun _ _=>?_;dsimp only))
      go_ret
      exact aC.mk' (by simp[hle,hnd,htd]) (Ul.out.trans gw)
end Go.Proofs.YtlkgjmnjhifehaaGreat
