
import Derived.Test.YtlkgjmnjhifehaaGreatRuC
import Derived.Test.YtlkgjmnjhifehaaGreatKitN
set_option linter.unusedSimpArgs false
set_option linter.unusedVariables false
set_option maxHeartbeats 8000000
set_option maxRecDepth 100000
namespace Go.Proofs.YtlkgjmnjhifehaaGreat
open Go.RowKit Go.Sort
attribute [local go_sem] dA steadyUpon
attribute [local go_sem ↓] bU bI aX aW aV aU aT
attribute [local go_sem] bH aK aJ size_grow tape_grow cell?_grow' aF aB grow_grow bW aY dR cO bY bK aN cZ aZ bZ bJ
attribute [local irreducible] wpSteady
def iD (o k n:Int):Bool:=decide (1<=o/\o<=5)&&((nU o).contains k&&decide (yY o<=n/\n<=Iz o))
theorem rdN {W:World}{b:Nat}{cs:Array Value}{T:TypeId}(ks:List Int)(h:W.heap[b]?=some (.cells cs T (0,0)))(hc:cs.toList=ks.map fun n=>.int .i64 n):Rd W W.heap.size 1 (some ⟨b,0,none⟩) (ks.map Jf):=by
 refine .inr ⟨b,0,rfl,au h,fun k x hx j v hv=>?_⟩
 rw[List.getElem?_map] at hx
 cases hk:ks[k]? with
 | none=>rw[hk] at hx;cases hx
 | some y =>
  rw[hk] at hx
  injection hx with hx
  subst hx
  match j,hv with
  | 0,hv =>
   injection hv with hv
   subst hv
   have hcs:cs[k]?=some (.int .i64 y):=by
    rw[<-Array.getElem?_toList,hc,List.getElem?_map,hk]
    rfl
   have:W.cell? ⟨b,k,none⟩=cs[k]?:=by
    unfold World.cell?
    simp[h]
   simpa[hcs] using this
theorem jq.k1' {W:World}{g b1 b2 b3 b4 b5:Nat}(h:jq W g b1 b2 b3 b4 b5):∃s:Value,W.cell? ⟨g,5,none⟩=some s/\W.cell? ⟨g,6,none⟩=some (.slice (some ⟨b1,0,none⟩) 1 1)/\W.cell? ⟨g,7,none⟩=some (.int .i64 1)/\W.cell? ⟨g,8,none⟩=some (.int .i64 100000)/\W.cell? ⟨g,9,none⟩=some (.nilFunc) :=
 ⟨_,ag h.row 5,ag h.row 6,ag h.row 7,ag h.row 8,ag h.row 9⟩
theorem jq.k2' {W:World}{g b1 b2 b3 b4 b5:Nat}(h:jq W g b1 b2 b3 b4 b5):∃s:Value,W.cell? ⟨g,10,none⟩=some s/\W.cell? ⟨g,11,none⟩=some (.slice (some ⟨b2,0,none⟩) 4 4)/\W.cell? ⟨g,12,none⟩=some (.int .i64 1)/\W.cell? ⟨g,13,none⟩=some (.int .i64 1000)/\W.cell? ⟨g,14,none⟩=some (.func (.func 126) #[] #[]) :=
 ⟨_,ag h.row 10,ag h.row 11,ag h.row 12,ag h.row 13,ag h.row 14⟩
theorem jq.k3' {W:World}{g b1 b2 b3 b4 b5:Nat}(h:jq W g b1 b2 b3 b4 b5):∃s:Value,W.cell? ⟨g,15,none⟩=some s/\W.cell? ⟨g,16,none⟩=some (.slice (some ⟨b3,0,none⟩) 3 3)/\W.cell? ⟨g,17,none⟩=some (.int .i64 0)/\W.cell? ⟨g,18,none⟩=some (.int .i64 100000)/\W.cell? ⟨g,19,none⟩=some (.nilFunc) :=
 ⟨_,ag h.row 15,ag h.row 16,ag h.row 17,ag h.row 18,ag h.row 19⟩
theorem jq.k4' {W:World}{g b1 b2 b3 b4 b5:Nat}(h:jq W g b1 b2 b3 b4 b5):∃s:Value,W.cell? ⟨g,20,none⟩=some s/\W.cell? ⟨g,21,none⟩=some (.slice (some ⟨b4,0,none⟩) 3 3)/\W.cell? ⟨g,22,none⟩=some (.int .i64 0)/\W.cell? ⟨g,23,none⟩=some (.int .i64 100000)/\W.cell? ⟨g,24,none⟩=some (.func (.func 127) #[] #[]) :=
 ⟨_,ag h.row 20,ag h.row 21,ag h.row 22,ag h.row 23,ag h.row 24⟩
theorem jq.k5' {W:World}{g b1 b2 b3 b4 b5:Nat}(h:jq W g b1 b2 b3 b4 b5):∃s:Value,W.cell? ⟨g,25,none⟩=some s/\W.cell? ⟨g,26,none⟩=some (.slice (some ⟨b5,0,none⟩) 2 2)/\W.cell? ⟨g,27,none⟩=some (.int .i64 0)/\W.cell? ⟨g,28,none⟩=some (.int .i64 0)/\W.cell? ⟨g,29,none⟩=some (.func (.func 128) #[] #[]) :=
 ⟨_,ag h.row 25,ag h.row 26,ag h.row 27,ag h.row 28,ag h.row 29⟩
theorem Oa (o k n:Int)(w:World)(h:o<1):Calls Tryz.prog 74 #[PE o k n] w (aC w (.bool false)):=by
 have hm:=aP
 have h1:decide (1<=o)=false:=decide_eq_false (by omega)
 have h2:¬ 1<=o:=by omega
 go_enter Tryz.func74,Tryz.ntmps74
 go_wp2_with fail
 refine fC ?_
 intro W0 hW
 have mF:Hid (dK W0 w.heap.size o k n):=hide (by rw[<-hW];exact dK.new w o k n)
 have lN:Hid (Grew w W0):=hide (by rw[<-hW];exact gw)
 clear hW
 have hB0:=mF.out.2
 refine wp_region_held_drew (S:=(fun w'=>w'.cell? ⟨w.heap.size,0,none⟩=some (.int .i64 o)/\w'.cell? ⟨w.heap.size,1,none⟩=some (.int .i64 k)/\w'.cell? ⟨w.heap.size,2,none⟩=some (.int .i64 n))) hm ?_ (fun hHeld=>?_)
 ·exact (dK.up mF.out gw).1
 refine tk 0 ?_
 try simp only[Act.put,aG,bT]
 refine tk 1 ?_
 try simp only[Act.put,aG,bT]
 refine tk 2 ?_
 try simp only[Act.put,aG,bT]
 refine tk 3 ?_
 try simp only[Act.put,aG,bT]
 refine ts 4 ?_
 refine ts 5 ?_
 refine ts 6 ?_
 try simp only[Act.put,aG,bT]
 refine ts 7 ?_
 try simp only[Act.put,aG,bT]
 refine ts 8 ?_
 try simp only[Act.put,aG,bT]
 refine tk 9 ?_
 try simp only[Act.put,aG,bT]
 refine tk 10 ?_
 try simp only[Act.put,aG,bT]
 refine ts 11 ?_
 refine ts 12 ?_
 refine ts 13 ?_
 refine ts 14 ?_
 refine ts 15 ?_
 refine ts 16 ?_
 try simp only[Act.put,aG,bT]
 refine ts 17 ?_
 try simp only[Act.put,aG,bT]
 refine ts 18 ?_
 try simp only[Act.put,aG,bT]
 refine tk 19 ?_
 try simp only[Act.put,aG,bT]
 refine tk 20 ?_
 try simp only[Act.put,aG,bT]
 refine ts 21 ?_
 refine ts 22 ?_
 refine ts 23 ?_
 refine ts 24 ?_
 refine ts 25 ?_
 refine ts 26 ?_
 try simp only[Act.put,aG,bT]
 refine ts 27 ?_
 try simp only[Act.put,aG,bT]
 refine ts 28 ?_
 try simp only[Act.put,aG,bT]
 refine tk 29 ?_
 try simp only[Act.put,aG,bT]
 refine tk 30 ?_
 try simp only[Act.put,aG,bT]
 refine wpAnyH_done (by kernel_rfl) ?_ _
 go_wp2_with fail
 go_ret
 exact aC.mk' rfl (lN.out.trans gw)
theorem KN (o k n:Int)(w:World)(h:6<=o):Calls Tryz.prog 74 #[PE o k n] w (aC w (.bool false)):=by
 have hm:=aP
 have h1:decide (1<=o)=true:=decide_eq_true (by omega)
 have h2:1<=o:=by omega
 have h3:¬ o<6:=by omega
 have h4:decide (o<6)=false:=decide_eq_false (by omega)
 go_enter Tryz.func74,Tryz.ntmps74
 go_wp2_with fail
 refine fC ?_
 intro W0 hW
 have mF:Hid (dK W0 w.heap.size o k n):=hide (by rw[<-hW];exact dK.new w o k n)
 have lN:Hid (Grew w W0):=hide (by rw[<-hW];exact gw)
 clear hW
 have hB0:=mF.out.2
 refine wp_region_held_drew (S:=(fun w'=>w'.cell? ⟨w.heap.size,0,none⟩=some (.int .i64 o)/\w'.cell? ⟨w.heap.size,1,none⟩=some (.int .i64 k)/\w'.cell? ⟨w.heap.size,2,none⟩=some (.int .i64 n))) hm ?_ (fun hHeld=>?_)
 ·exact (dK.up mF.out gw).1
 refine tk 0 ?_
 try simp only[Act.put,aG,bT]
 refine tk 1 ?_
 try simp only[Act.put,aG,bT]
 refine tk 2 ?_
 try simp only[Act.put,aG,bT]
 refine tk 3 ?_
 try simp only[Act.put,aG,bT]
 refine tk 4 ?_
 try simp only[Act.put,aG,bT]
 refine tk 5 ?_
 try simp only[Act.put,aG,bT]
 refine wpAnyH_ready (rs:=[6]) (by kernel_rfl) (by simp) ?_
 refine AllReadyH.cons (o:=_) rfl (fun K hK=>?_) AllReadyH.nil
 go_simp
 first|((go_at_call 96);(refine (gq _).mono ?_);rintro e Wn ⟨g,b1,b2,b3,b4,b5,rfl,hF,hgr⟩;have F5:Hid (Grew W0 Wn):=hide (Grew.trans gw hgr);clear hF hgr;dsimp only)|skip
 refine hK.out _ _ ?_ (fun hHeld=>?_)
 ·exact (dK.up mF.out gw).1
 clear hK K
 try simp only[Act.put,aG,bT]
 refine tk 7 ?_
 try simp only[Act.put,aG,bT]
 refine tk 8 ?_
 try simp only[Act.put,aG,bT]
 refine tk 9 ?_
 try simp only[Act.put,aG,bT]
 refine tk 10 ?_
 try simp only[Act.put,aG,bT]
 refine ts 11 ?_
 refine ts 12 ?_
 refine ts 13 ?_
 refine ts 14 ?_
 refine ts 15 ?_
 refine ts 16 ?_
 try simp only[Act.put,aG,bT]
 refine ts 17 ?_
 try simp only[Act.put,aG,bT]
 refine ts 18 ?_
 try simp only[Act.put,aG,bT]
 refine tk 19 ?_
 try simp only[Act.put,aG,bT]
 refine tk 20 ?_
 try simp only[Act.put,aG,bT]
 refine ts 21 ?_
 refine ts 22 ?_
 refine ts 23 ?_
 refine ts 24 ?_
 refine ts 25 ?_
 refine ts 26 ?_
 try simp only[Act.put,aG,bT]
 refine ts 27 ?_
 try simp only[Act.put,aG,bT]
 refine ts 28 ?_
 try simp only[Act.put,aG,bT]
 refine tk 29 ?_
 try simp only[Act.put,aG,bT]
 refine tk 30 ?_
 try simp only[Act.put,aG,bT]
 refine wpAnyH_done (by kernel_rfl) ?_ _
 go_wp2_with fail
 go_ret
 exact aC.mk' rfl (lN.out.trans gw)
set_option maxHeartbeats 8000000
set_option maxRecDepth 100000
theorem five {q:Nat}(h:1<=q/\q<=5):q=1\/q=2\/q=3\/q=4\/q=5:=by omega
theorem RV {q:Nat}(h:1<=q/\q<=5):(nU (q:Int)).length<=4:=by
 rcases five h with rfl|rfl|rfl|rfl|rfl<;>decide
theorem jq.at {W:World}{g b1 b2 b3 b4 b5:Nat}(h:jq W g b1 b2 b3 b4 b5){q:Nat}(hq:1<=q/\q<=5):∃ (s f:Value) (b:Nat),W.cell? ⟨g,q*5,none⟩=some s/\W.cell? ⟨g,q*5+1,none⟩=some (.slice (some ⟨b,0,none⟩) (nU (q:Int)).length (nU (q:Int)).length)/\W.cell? ⟨g,q*5+2,none⟩=some (.int .i64 (yY (q:Int)))/\W.cell? ⟨g,q*5+3,none⟩=some (.int .i64 (Iz (q:Int)))/\W.cell? ⟨g,q*5+4,none⟩=some f/\Hid (∀W',Grew W W'->Rd W' W'.heap.size 1 (some ⟨b,0,none⟩) ((nU (q:Int)).map Jf)):=by
 rcases five hq with rfl|rfl|rfl|rfl|rfl
 ·exact⟨_,_,b1,ag h.row 5,ag h.row 6,ag h.row 7,ag h.row 8,ag h.row 9,hide fun W' hg=>rdN [0] (h.up hg).k1 rfl⟩
 ·exact⟨_,_,b2,ag h.row 10,ag h.row 11,ag h.row 12,ag h.row 13,ag h.row 14,hide fun W' hg=>rdN [1,2,3,5] (h.up hg).k2 rfl⟩
 ·exact⟨_,_,b3,ag h.row 15,ag h.row 16,ag h.row 17,ag h.row 18,ag h.row 19,hide fun W' hg=>rdN [1,2,5] (h.up hg).k3 rfl⟩
 ·exact⟨_,_,b4,ag h.row 20,ag h.row 21,ag h.row 22,ag h.row 23,ag h.row 24,hide fun W' hg=>rdN [1,2,5] (h.up hg).k4 rfl⟩
 ·exact⟨_,_,b5,ag h.row 25,ag h.row 26,ag h.row 27,ag h.row 28,ag h.row 29,hide fun W' hg=>rdN [3,6] (h.up hg).k5 rfl⟩
theorem N9 (q:Nat)(hq:1<=q/\q<=5)(k n:Int)(r:Bool)(w:World)(h:iD (q:Int) k n=r):Calls Tryz.prog 74 #[PE (q:Int) k n] w (aC w (.bool r)):=by
 have hm:=aP
 obtain⟨ks,hks⟩:∃l,nU (q:Int)=l:=⟨_,rfl⟩
 obtain⟨lo,hlo⟩:∃l,yY (q:Int)=l:=⟨_,rfl⟩
 obtain⟨hi,hhi⟩:∃l,Iz (q:Int)=l:=⟨_,rfl⟩
 obtain⟨o1,h1⟩:∃o,ks.contains k=o:=⟨_,rfl⟩
 obtain⟨o2,h2⟩:∃o,decide (lo<=n/\n<=hi)=o:=⟨_,rfl⟩
 obtain rfl:(o1&&o2)=r:=by
  rw[<-h,<-h1,<-h2,<-hks,<-hlo,<-hhi]
  unfold iD
  rw[decide_eq_true (by omega:1<=(q:Int)/\(q:Int)<=5),Bool.true_and]
 have hkl:ks.length<=4:=by rw[<-hks];exact RV hq
 have hat:Hid (∀ (W:World) (g b1 b2 b3 b4 b5:Nat),jq W g b1 b2 b3 b4 b5->∃ (s f:Value) (b:Nat),W.cell? ⟨g,q*5,none⟩=some s/\W.cell? ⟨g,q*5+1,none⟩=some (.slice (some ⟨b,0,none⟩) ks.length ks.length)/\W.cell? ⟨g,q*5+2,none⟩=some (.int .i64 lo)/\W.cell? ⟨g,q*5+3,none⟩=some (.int .i64 hi)/\W.cell? ⟨g,q*5+4,none⟩=some f/\Hid (∀W',Grew W W'->Rd W' W'.heap.size 1 (some ⟨b,0,none⟩) (ks.map Jf))):=hide (fun W g b1 b2 b3 b4 b5 hF=>by
  have:=hF.at hq
  rw[hks,hlo,hhi] at this
  exact this)
 have k2:Hid (∀ (s:Value) A m c (f:Value) W,Calls Tryz.prog 99 #[.agg #[s,.slice A m c,.int .i64 lo,.int .i64 hi,f],.int .i64 n] W (aC W (.bool o2))):=hide (fun s A m c f W=>acz s A m c lo hi f n o2 W h2)
 have k1:Hid (∀ (s:Value) A c (f:Value) W,Rd W W.heap.size 1 A (ks.map Jf)->Calls Tryz.prog 98 #[.agg #[s,.slice A ks.length c,.int .i64 lo,.int .i64 hi,f],.int .i64 k] W (aC W (.bool o1))):=hide (fun s A c f W hr=>ae0 s ks A c lo hi f k o1 W hr (by omega) h1)
 have g1:decide (1<=(q:Int))=true:=decide_eq_true (by omega)
 have g2:1<=(q:Int):=by omega
 have g3:(q:Int)<6:=by omega
 have g4:decide ((q:Int)<6)=true:=decide_eq_true g3
 have hq6:q<6:=by omega
 clear h h1 h2 hks hlo hhi hq
 cases o1
 ·go_enter Tryz.func74,Tryz.ntmps74
  go_wp2_with fail
  refine fC ?_
  intro W0 hW
  have mF:Hid (dK W0 w.heap.size (q:Int) k n):=hide (by rw[<-hW];exact dK.new w (q:Int) k n)
  have lN:Hid (Grew w W0):=hide (by rw[<-hW];exact gw)
  clear hW
  have hB0:=mF.out.2
  refine wp_region_held_drew (S:=(fun w'=>w'.cell? ⟨w.heap.size,0,none⟩=some (.int .i64 (q:Int))/\w'.cell? ⟨w.heap.size,1,none⟩=some (.int .i64 k)/\w'.cell? ⟨w.heap.size,2,none⟩=some (.int .i64 n))) hm ?_ (fun hHeld=>?_)
  ·exact (dK.up mF.out gw).1
  refine tk 0 ?_
  try simp only[Act.put,aG,bT]
  refine tk 1 ?_
  try simp only[Act.put,aG,bT]
  refine tk 2 ?_
  try simp only[Act.put,aG,bT]
  refine tk 3 ?_
  try simp only[Act.put,aG,bT]
  refine tk 4 ?_
  try simp only[Act.put,aG,bT]
  refine tk 5 ?_
  try simp only[Act.put,aG,bT]
  refine wpAnyH_ready (rs:=[6]) (by kernel_rfl) (by simp) ?_
  refine AllReadyH.cons (o:=_) rfl (fun K hK=>?_) AllReadyH.nil
  go_simp
  (first|((go_at_call 96);(try clear q0 q1 q2 q3 q4 HF hix);(refine (gq _).mono ?_);rintro e Wn ⟨g,b1,b2,b3,b4,b5,rfl,hF,hgr⟩;have F5:Hid (Grew W0 Wn):=hide (Grew.trans gw hgr);obtain⟨s,fv,bb,q0,q1,q2,q3,q4,HF⟩:=hat.out _ _ _ _ _ _ _ hF;have hix:=aO (cap:=6) (len:=6) (k:=q) (A:=some ⟨g,0,none⟩) (b:=g) (off:=0) Tryz.underlying162 Tryz.sizeOf161 rfl hq6;simp only[Nat.zero_add] at hix;clear hF hgr;dsimp only)|((go_at_call 98);(with_reducible refine (k1.out _ _ _ _ _ (HF.out _ gw)).mono ?_);rintro e w' ⟨rfl,⟨_,_⟩,rfl⟩;dsimp only)|((go_at_call 99);(with_reducible refine (k2.out _ _ _ _ _ _).mono ?_);rintro e w' ⟨rfl,⟨_,_⟩,rfl⟩;dsimp only)|skip)
  refine hK.out _ _ ?_ (fun hHeld=>?_)
  ·exact (dK.up mF.out gw).1
  clear hK K
  try simp only[Act.put,aG,bT]
  refine tk 7 ?_
  try simp only[Act.put,aG,bT]
  refine tk 8 ?_
  try simp only[Act.put,aG,bT]
  refine tk 9 ?_
  try simp only[Act.put,aG,bT]
  refine tk 10 ?_
  try simp only[Act.put,aG,bT]
  refine tk 12 ?_
  refine tk 13 ?_
  refine tk 16 ?_
  try simp only[Act.put,aG,bT]
  refine tk 17 ?_
  try simp only[Act.put,aG,bT]
  refine wpAnyH_ready (rs:=[11]) (by kernel_rfl) (by simp) ?_
  refine AllReadyH.cons (o:=_) rfl (fun K hK=>?_) AllReadyH.nil
  go_simp
  (first|((go_at_call 96);(try clear q0 q1 q2 q3 q4 HF hix);(refine (gq _).mono ?_);rintro e Wn ⟨g,b1,b2,b3,b4,b5,rfl,hF,hgr⟩;have F5:Hid (Grew W0 Wn):=hide (Grew.trans gw hgr);obtain⟨s,fv,bb,q0,q1,q2,q3,q4,HF⟩:=hat.out _ _ _ _ _ _ _ hF;have hix:=aO (cap:=6) (len:=6) (k:=q) (A:=some ⟨g,0,none⟩) (b:=g) (off:=0) Tryz.underlying162 Tryz.sizeOf161 rfl hq6;simp only[Nat.zero_add] at hix;clear hF hgr;dsimp only)|((go_at_call 98);(with_reducible refine (k1.out _ _ _ _ _ (HF.out _ gw)).mono ?_);rintro e w' ⟨rfl,⟨_,_⟩,rfl⟩;dsimp only)|((go_at_call 99);(with_reducible refine (k2.out _ _ _ _ _ _).mono ?_);rintro e w' ⟨rfl,⟨_,_⟩,rfl⟩;dsimp only)|skip)
  refine hK.out _ _ ?_ (fun hHeld=>?_)
  ·exact (dK.up mF.out gw).1
  clear hK K
  try simp only[Act.put,aG,bT]
  refine tk 14 ?_
  try simp only[Act.put,aG,bT]
  refine wpAnyH_ready (rs:=[15]) (by kernel_rfl) (by simp) ?_
  refine AllReadyH.cons (o:=_) rfl (fun K hK=>?_) AllReadyH.nil
  go_simp
  (first|((go_at_call 96);(try clear q0 q1 q2 q3 q4 HF hix);(refine (gq _).mono ?_);rintro e Wn ⟨g,b1,b2,b3,b4,b5,rfl,hF,hgr⟩;have F5:Hid (Grew W0 Wn):=hide (Grew.trans gw hgr);obtain⟨s,fv,bb,q0,q1,q2,q3,q4,HF⟩:=hat.out _ _ _ _ _ _ _ hF;have hix:=aO (cap:=6) (len:=6) (k:=q) (A:=some ⟨g,0,none⟩) (b:=g) (off:=0) Tryz.underlying162 Tryz.sizeOf161 rfl hq6;simp only[Nat.zero_add] at hix;clear hF hgr;dsimp only)|((go_at_call 98);(with_reducible refine (k1.out _ _ _ _ _ (HF.out _ gw)).mono ?_);rintro e w' ⟨rfl,⟨_,_⟩,rfl⟩;dsimp only)|((go_at_call 99);(with_reducible refine (k2.out _ _ _ _ _ _).mono ?_);rintro e w' ⟨rfl,⟨_,_⟩,rfl⟩;dsimp only)|skip)
  refine hK.out _ _ ?_ (fun hHeld=>?_)
  ·exact (dK.up mF.out gw).1
  clear hK K
  try simp only[Act.put,aG,bT]
  refine wpAnyH_ready (rs:=[18]) (by kernel_rfl) (by simp) ?_
  refine AllReadyH.cons (o:=_) rfl (fun K hK=>?_) AllReadyH.nil
  go_simp
  (first|((go_at_call 96);(try clear q0 q1 q2 q3 q4 HF hix);(refine (gq _).mono ?_);rintro e Wn ⟨g,b1,b2,b3,b4,b5,rfl,hF,hgr⟩;have F5:Hid (Grew W0 Wn):=hide (Grew.trans gw hgr);obtain⟨s,fv,bb,q0,q1,q2,q3,q4,HF⟩:=hat.out _ _ _ _ _ _ _ hF;have hix:=aO (cap:=6) (len:=6) (k:=q) (A:=some ⟨g,0,none⟩) (b:=g) (off:=0) Tryz.underlying162 Tryz.sizeOf161 rfl hq6;simp only[Nat.zero_add] at hix;clear hF hgr;dsimp only)|((go_at_call 98);(with_reducible refine (k1.out _ _ _ _ _ (HF.out _ gw)).mono ?_);rintro e w' ⟨rfl,⟨_,_⟩,rfl⟩;dsimp only)|((go_at_call 99);(with_reducible refine (k2.out _ _ _ _ _ _).mono ?_);rintro e w' ⟨rfl,⟨_,_⟩,rfl⟩;dsimp only)|skip)
  refine hK.out _ _ ?_ (fun hHeld=>?_)
  ·exact (dK.up mF.out gw).1
  clear hK K
  try simp only[Act.put,aG,bT]
  refine tk 19 ?_
  try simp only[Act.put,aG,bT]
  refine tk 20 ?_
  try simp only[Act.put,aG,bT]
  refine ts 21 ?_
  refine ts 22 ?_
  refine ts 23 ?_
  refine ts 24 ?_
  refine ts 25 ?_
  refine ts 26 ?_
  try simp only[Act.put,aG,bT]
  refine ts 27 ?_
  try simp only[Act.put,aG,bT]
  refine ts 28 ?_
  try simp only[Act.put,aG,bT]
  refine tk 29 ?_
  try simp only[Act.put,aG,bT]
  refine tk 30 ?_
  try simp only[Act.put,aG,bT]
  refine wpAnyH_done (by kernel_rfl) ?_ _
  go_wp2_with fail
  go_ret
  exact aC.mk' rfl (lN.out.trans gw)
 ·go_enter Tryz.func74,Tryz.ntmps74
  go_wp2_with fail
  refine fC ?_
  intro W0 hW
  have mF:Hid (dK W0 w.heap.size (q:Int) k n):=hide (by rw[<-hW];exact dK.new w (q:Int) k n)
  have lN:Hid (Grew w W0):=hide (by rw[<-hW];exact gw)
  clear hW
  have hB0:=mF.out.2
  refine wp_region_held_drew (S:=(fun w'=>w'.cell? ⟨w.heap.size,0,none⟩=some (.int .i64 (q:Int))/\w'.cell? ⟨w.heap.size,1,none⟩=some (.int .i64 k)/\w'.cell? ⟨w.heap.size,2,none⟩=some (.int .i64 n))) hm ?_ (fun hHeld=>?_)
  ·exact (dK.up mF.out gw).1
  refine tk 0 ?_
  try simp only[Act.put,aG,bT]
  refine tk 1 ?_
  try simp only[Act.put,aG,bT]
  refine tk 2 ?_
  try simp only[Act.put,aG,bT]
  refine tk 3 ?_
  try simp only[Act.put,aG,bT]
  refine tk 4 ?_
  try simp only[Act.put,aG,bT]
  refine tk 5 ?_
  try simp only[Act.put,aG,bT]
  refine wpAnyH_ready (rs:=[6]) (by kernel_rfl) (by simp) ?_
  refine AllReadyH.cons (o:=_) rfl (fun K hK=>?_) AllReadyH.nil
  go_simp
  (first|((go_at_call 96);(try clear q0 q1 q2 q3 q4 HF hix);(refine (gq _).mono ?_);rintro e Wn ⟨g,b1,b2,b3,b4,b5,rfl,hF,hgr⟩;have F5:Hid (Grew W0 Wn):=hide (Grew.trans gw hgr);obtain⟨s,fv,bb,q0,q1,q2,q3,q4,HF⟩:=hat.out _ _ _ _ _ _ _ hF;have hix:=aO (cap:=6) (len:=6) (k:=q) (A:=some ⟨g,0,none⟩) (b:=g) (off:=0) Tryz.underlying162 Tryz.sizeOf161 rfl hq6;simp only[Nat.zero_add] at hix;clear hF hgr;dsimp only)|((go_at_call 98);(with_reducible refine (k1.out _ _ _ _ _ (HF.out _ gw)).mono ?_);rintro e w' ⟨rfl,⟨_,_⟩,rfl⟩;dsimp only)|((go_at_call 99);(with_reducible refine (k2.out _ _ _ _ _ _).mono ?_);rintro e w' ⟨rfl,⟨_,_⟩,rfl⟩;dsimp only)|skip)
  refine hK.out _ _ ?_ (fun hHeld=>?_)
  ·exact (dK.up mF.out gw).1
  clear hK K
  try simp only[Act.put,aG,bT]
  refine tk 7 ?_
  try simp only[Act.put,aG,bT]
  refine tk 8 ?_
  try simp only[Act.put,aG,bT]
  refine tk 9 ?_
  try simp only[Act.put,aG,bT]
  refine tk 10 ?_
  try simp only[Act.put,aG,bT]
  refine tk 12 ?_
  refine tk 13 ?_
  refine tk 16 ?_
  try simp only[Act.put,aG,bT]
  refine tk 17 ?_
  try simp only[Act.put,aG,bT]
  refine wpAnyH_ready (rs:=[11]) (by kernel_rfl) (by simp) ?_
  refine AllReadyH.cons (o:=_) rfl (fun K hK=>?_) AllReadyH.nil
  go_simp
  (first|((go_at_call 96);(try clear q0 q1 q2 q3 q4 HF hix);(refine (gq _).mono ?_);rintro e Wn ⟨g,b1,b2,b3,b4,b5,rfl,hF,hgr⟩;have F5:Hid (Grew W0 Wn):=hide (Grew.trans gw hgr);obtain⟨s,fv,bb,q0,q1,q2,q3,q4,HF⟩:=hat.out _ _ _ _ _ _ _ hF;have hix:=aO (cap:=6) (len:=6) (k:=q) (A:=some ⟨g,0,none⟩) (b:=g) (off:=0) Tryz.underlying162 Tryz.sizeOf161 rfl hq6;simp only[Nat.zero_add] at hix;clear hF hgr;dsimp only)|((go_at_call 98);(with_reducible refine (k1.out _ _ _ _ _ (HF.out _ gw)).mono ?_);rintro e w' ⟨rfl,⟨_,_⟩,rfl⟩;dsimp only)|((go_at_call 99);(with_reducible refine (k2.out _ _ _ _ _ _).mono ?_);rintro e w' ⟨rfl,⟨_,_⟩,rfl⟩;dsimp only)|skip)
  refine hK.out _ _ ?_ (fun hHeld=>?_)
  ·exact (dK.up mF.out gw).1
  clear hK K
  try simp only[Act.put,aG,bT]
  refine tk 14 ?_
  try simp only[Act.put,aG,bT]
  refine wpAnyH_ready (rs:=[15]) (by kernel_rfl) (by simp) ?_
  refine AllReadyH.cons (o:=_) rfl (fun K hK=>?_) AllReadyH.nil
  go_simp
  (first|((go_at_call 96);(try clear q0 q1 q2 q3 q4 HF hix);(refine (gq _).mono ?_);rintro e Wn ⟨g,b1,b2,b3,b4,b5,rfl,hF,hgr⟩;have F5:Hid (Grew W0 Wn):=hide (Grew.trans gw hgr);obtain⟨s,fv,bb,q0,q1,q2,q3,q4,HF⟩:=hat.out _ _ _ _ _ _ _ hF;have hix:=aO (cap:=6) (len:=6) (k:=q) (A:=some ⟨g,0,none⟩) (b:=g) (off:=0) Tryz.underlying162 Tryz.sizeOf161 rfl hq6;simp only[Nat.zero_add] at hix;clear hF hgr;dsimp only)|((go_at_call 98);(with_reducible refine (k1.out _ _ _ _ _ (HF.out _ gw)).mono ?_);rintro e w' ⟨rfl,⟨_,_⟩,rfl⟩;dsimp only)|((go_at_call 99);(with_reducible refine (k2.out _ _ _ _ _ _).mono ?_);rintro e w' ⟨rfl,⟨_,_⟩,rfl⟩;dsimp only)|skip)
  refine hK.out _ _ ?_ (fun hHeld=>?_)
  ·exact (dK.up mF.out gw).1
  clear hK K
  try simp only[Act.put,aG,bT]
  refine wpAnyH_ready (rs:=[18]) (by kernel_rfl) (by simp) ?_
  refine AllReadyH.cons (o:=_) rfl (fun K hK=>?_) AllReadyH.nil
  go_simp
  (first|((go_at_call 96);(try clear q0 q1 q2 q3 q4 HF hix);(refine (gq _).mono ?_);rintro e Wn ⟨g,b1,b2,b3,b4,b5,rfl,hF,hgr⟩;have F5:Hid (Grew W0 Wn):=hide (Grew.trans gw hgr);obtain⟨s,fv,bb,q0,q1,q2,q3,q4,HF⟩:=hat.out _ _ _ _ _ _ _ hF;have hix:=aO (cap:=6) (len:=6) (k:=q) (A:=some ⟨g,0,none⟩) (b:=g) (off:=0) Tryz.underlying162 Tryz.sizeOf161 rfl hq6;simp only[Nat.zero_add] at hix;clear hF hgr;dsimp only)|((go_at_call 98);(with_reducible refine (k1.out _ _ _ _ _ (HF.out _ gw)).mono ?_);rintro e w' ⟨rfl,⟨_,_⟩,rfl⟩;dsimp only)|((go_at_call 99);(with_reducible refine (k2.out _ _ _ _ _ _).mono ?_);rintro e w' ⟨rfl,⟨_,_⟩,rfl⟩;dsimp only)|skip)
  refine hK.out _ _ ?_ (fun hHeld=>?_)
  ·exact (dK.up mF.out gw).1
  clear hK K
  try simp only[Act.put,aG,bT]
  refine tk 19 ?_
  try simp only[Act.put,aG,bT]
  refine tk 20 ?_
  try simp only[Act.put,aG,bT]
  refine tk 22 ?_
  refine tk 23 ?_
  refine tk 26 ?_
  try simp only[Act.put,aG,bT]
  refine tk 27 ?_
  try simp only[Act.put,aG,bT]
  refine wpAnyH_ready (rs:=[21]) (by kernel_rfl) (by simp) ?_
  refine AllReadyH.cons (o:=_) rfl (fun K hK=>?_) AllReadyH.nil
  go_simp
  (first|((go_at_call 96);(try clear q0 q1 q2 q3 q4 HF hix);(refine (gq _).mono ?_);rintro e Wn ⟨g,b1,b2,b3,b4,b5,rfl,hF,hgr⟩;have F5:Hid (Grew W0 Wn):=hide (Grew.trans gw hgr);obtain⟨s,fv,bb,q0,q1,q2,q3,q4,HF⟩:=hat.out _ _ _ _ _ _ _ hF;have hix:=aO (cap:=6) (len:=6) (k:=q) (A:=some ⟨g,0,none⟩) (b:=g) (off:=0) Tryz.underlying162 Tryz.sizeOf161 rfl hq6;simp only[Nat.zero_add] at hix;clear hF hgr;dsimp only)|((go_at_call 98);(with_reducible refine (k1.out _ _ _ _ _ (HF.out _ gw)).mono ?_);rintro e w' ⟨rfl,⟨_,_⟩,rfl⟩;dsimp only)|((go_at_call 99);(with_reducible refine (k2.out _ _ _ _ _ _).mono ?_);rintro e w' ⟨rfl,⟨_,_⟩,rfl⟩;dsimp only)|skip)
  refine hK.out _ _ ?_ (fun hHeld=>?_)
  ·exact (dK.up mF.out gw).1
  clear hK K
  try simp only[Act.put,aG,bT]
  refine tk 24 ?_
  try simp only[Act.put,aG,bT]
  refine wpAnyH_ready (rs:=[25]) (by kernel_rfl) (by simp) ?_
  refine AllReadyH.cons (o:=_) rfl (fun K hK=>?_) AllReadyH.nil
  go_simp
  (first|((go_at_call 96);(try clear q0 q1 q2 q3 q4 HF hix);(refine (gq _).mono ?_);rintro e Wn ⟨g,b1,b2,b3,b4,b5,rfl,hF,hgr⟩;have F5:Hid (Grew W0 Wn):=hide (Grew.trans gw hgr);obtain⟨s,fv,bb,q0,q1,q2,q3,q4,HF⟩:=hat.out _ _ _ _ _ _ _ hF;have hix:=aO (cap:=6) (len:=6) (k:=q) (A:=some ⟨g,0,none⟩) (b:=g) (off:=0) Tryz.underlying162 Tryz.sizeOf161 rfl hq6;simp only[Nat.zero_add] at hix;clear hF hgr;dsimp only)|((go_at_call 98);(with_reducible refine (k1.out _ _ _ _ _ (HF.out _ gw)).mono ?_);rintro e w' ⟨rfl,⟨_,_⟩,rfl⟩;dsimp only)|((go_at_call 99);(with_reducible refine (k2.out _ _ _ _ _ _).mono ?_);rintro e w' ⟨rfl,⟨_,_⟩,rfl⟩;dsimp only)|skip)
  refine hK.out _ _ ?_ (fun hHeld=>?_)
  ·exact (dK.up mF.out gw).1
  clear hK K
  try simp only[Act.put,aG,bT]
  refine wpAnyH_ready (rs:=[28]) (by kernel_rfl) (by simp) ?_
  refine AllReadyH.cons (o:=_) rfl (fun K hK=>?_) AllReadyH.nil
  go_simp
  (first|((go_at_call 96);(try clear q0 q1 q2 q3 q4 HF hix);(refine (gq _).mono ?_);rintro e Wn ⟨g,b1,b2,b3,b4,b5,rfl,hF,hgr⟩;have F5:Hid (Grew W0 Wn):=hide (Grew.trans gw hgr);obtain⟨s,fv,bb,q0,q1,q2,q3,q4,HF⟩:=hat.out _ _ _ _ _ _ _ hF;have hix:=aO (cap:=6) (len:=6) (k:=q) (A:=some ⟨g,0,none⟩) (b:=g) (off:=0) Tryz.underlying162 Tryz.sizeOf161 rfl hq6;simp only[Nat.zero_add] at hix;clear hF hgr;dsimp only)|((go_at_call 98);(with_reducible refine (k1.out _ _ _ _ _ (HF.out _ gw)).mono ?_);rintro e w' ⟨rfl,⟨_,_⟩,rfl⟩;dsimp only)|((go_at_call 99);(with_reducible refine (k2.out _ _ _ _ _ _).mono ?_);rintro e w' ⟨rfl,⟨_,_⟩,rfl⟩;dsimp only)|skip)
  refine hK.out _ _ ?_ (fun hHeld=>?_)
  ·exact (dK.up mF.out gw).1
  clear hK K
  try simp only[Act.put,aG,bT]
  refine tk 29 ?_
  try simp only[Act.put,aG,bT]
  refine tk 30 ?_
  try simp only[Act.put,aG,bT]
  refine wpAnyH_done (by kernel_rfl) ?_ _
  go_wp2_with fail
  go_ret
  exact aC.mk' rfl (lN.out.trans gw)
theorem qx (o k n:Int)(r:Bool)(w:World)(h:iD o k n=r):Calls Tryz.prog 74 #[PE o k n] w (aC w (.bool r)):=by
 have hcase:o<1\/6<=o\/(1<=o/\o<=5):=by omega
 rcases hcase with h0|h0|h0
 ·obtain rfl:r=false:=by
   rw[<-h]
   unfold iD
   rw[decide_eq_false (by omega)]
   rfl
  exact Oa o k n w h0
 ·obtain rfl:r=false:=by
   rw[<-h]
   unfold iD
   rw[decide_eq_false (by omega)]
   rfl
  exact KN o k n w h0
 ·obtain⟨q,rfl⟩:∃q:Nat,o=(q:Int):=⟨o.toNat,by omega⟩
  exact N9 q (by omega) k n r w h
end Go.Proofs.YtlkgjmnjhifehaaGreat
