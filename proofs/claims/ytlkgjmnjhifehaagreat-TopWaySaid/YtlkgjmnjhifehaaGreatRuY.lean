
import Derived.Test.YtlkgjmnjhifehaaGreatRuF
import Derived.Test.YtlkgjmnjhifehaaGreatPov
set_option linter.unusedSimpArgs false
set_option linter.unusedVariables false
set_option maxHeartbeats 8000000
set_option maxRecDepth 100000
namespace Go.Proofs.YtlkgjmnjhifehaaGreat
open Go.RowKit Go.Sort Go.Lib
attribute [local go_sem] dA steadyUpon
attribute [local go_sem ↓] bU bI aX aW aV aU aT
attribute [local go_sem] bH aK aJ size_grow tape_grow cell?_grow' aF aB grow_grow bW aY dR cO bY bK aN cZ aZ bZ bJ
attribute [local irreducible] wpSteady
def FV.bare (f:FV):FV:={ f with aA:=none,ac:=0,sA:=none,sc:=0 }
def fQ (o n:Int)(f:FV):FV:=if o=2 then { f with dep:=f.dep-f.dep%n } else if o=4 then { f with dC:=max f.dC n } else if o=5 then { f with area:=(kP (ve f.area).1).1,aA:=none,ac:=0 } else f
def Hw (w:World)(g:Nat)(f:FV):Prop:=∀w',w.grownBy w' (some g)->f.rd w' w'.heap.size
theorem sW {w w1 w2:World}{r:Option Nat}(h:w.grownBy w1 r)(k:w1.grownBy w2 r):w.grownBy w2 r :=
 ⟨k.os.trans h.os,k.tape.trans h.tape,k.output.trans h.output,Nat.le_trans h.size k.size,fun b hb hne=>(k.block b (Nat.lt_of_lt_of_le hb h.size) hne).trans (h.block b hb hne)⟩
theorem Hw.gb {w w1:World}{g:Nat}{f:FV}(h:Hw w g f)(hg:w.grownBy w1 (some g)):Hw w1 g f:=fun w' k=>h w' (sW hg k)
theorem SN {w w':World}{g B:Nat}(h:w.grownBy w' (some g))(hB:B<=w.heap.size)(hg:B<=g):Below B w w' :=
 ⟨h.os,h.tape,h.output,by have:=h.size;omega,fun k hk=>h.block k (by omega) (by intro e;injection e with e;omega)⟩
theorem Hw.of {w:World}{B g:Nat}{f:FV}(h:f.rd w B)(hB:B<=w.heap.size)(hg:B<=g):Hw w g f:=fun w' k=>by
 have hb:=SN k hB hg
 exact⟨(h.area.below hb).mono (by have:=k.size;omega),(h.secs.below hb).mono (by have:=k.size;omega),h.la,h.ls,h.lc⟩
theorem Hw.rd {w:World}{g:Nat}{f:FV}(h:Hw w g f):f.rd w w.heap.size:=h w ((Grew.refl w).grownBy _)
def Uc (W0 W:World)(base g cap:Nat)(cur:List FV)(i:Nat)(t:FV)(e:Ending)(w':World):Prop:=e=.returned (.tuple #[])/\∃f',w'.ownsRow base 65 9 (.slice (some ⟨g,0,none⟩) cur.length cap) cur.length ((cur.set i f').flatMap FV.cells)/\W.grownBy w' (some g)/\f'.bare=t.bare/\Hw w' g f'/\Grew W0 w'
theorem Hw.same {w:World}{g:Nat}{f f':FV}(h:Hw w g f)(e1:f'.area=f.area)(e2:f'.aA=f.aA)(e3:f'.secs=f.secs)(e4:f'.sA=f.sA)(e5:f'.sc=f.sc):Hw w g f':=fun w' k=>by
 have:=h w' k
 exact⟨by rw[e1,e2];exact this.area,by rw[e3,e4];exact this.secs,by rw[e1];exact this.la,by rw[e3];exact this.ls,by rw[e3,e5];exact this.lc⟩
theorem YG (n:Int)(cur:List FV)(base g cap i:Nat)(W0 W:World)(hown:W.ownsRow base 65 9 (.slice (some ⟨g,0,none⟩) cur.length cap) cur.length (cur.flatMap FV.cells))(hi:i<cur.length)(hb:W0.heap.size<=base)(hg:Grew W0 W)(hs:Hw W g (bF cur i))(hn:1<=n/\n<=1000)(hd:0<=(bF cur i).dep/\(bF cur i).dep<=100000) :
  Calls Tryz.prog 126 #[.pointer (some ⟨g,i*9,none⟩),.int .i64 n] W (Uc W0 W base g cap cur i (fQ 2 n (bF cur i))):=by
 have hm:=aP
 obtain⟨fc,hf⟩:=vP hown rfl hi
 obtain⟨lg1,Uf⟩:=hown.lt g rfl
 have d6:=fc.c6
 have hown2:=fun (x:Int)=>Zw hown hi x
 have hgg:W0.heap.size<=g:=by omega
 have hs2:=fun (x:Int)=>(hs.gb (eY (v:=.int .i64 x) (o:=i*9+6) ((Grew.refl W).grownBy (some g)))).same (f':={ bF cur i with dep:=x }) rfl rfl rfl rfl rfl
 have HOW:=hide hown2
 have HS:=hide hs2
 have HG:=hide hg
 have hn0:¬ n=0:=by omega
 obtain⟨d,hdd⟩:∃d,(bF cur i).dep=d:=⟨_,rfl⟩
 have HD:=hide hdd
 rw[hdd] at d6 hd
 have htm:=Int.tmod_eq_emod_of_nonneg (a:=d) (b:=n) hd.1
 have hmb:=Int.emod_nonneg d hn0
 have ags:=Int.emod_lt_of_pos d (show 0<n by omega)
 clear hown hs fc hown2 hs2 hg hdd
 have hch:({ bF cur i with dep:=d-d%n }:FV).bare=(fQ 2 n (bF cur i)).bare:=by
  unfold fQ
  rw[if_pos rfl,HD.out]
 have HC:=hide hch
 obtain⟨m,hm2⟩:∃m,d%n=m:=⟨_,rfl⟩
 rw[hm2] at htm hmb ags HC
 have hw:IntKind.i64.wrap (d-m)=d-m:=by unfold IntKind.wrap;simp[IntKind.bits,IntKind.signed];omega
 clear hch
 go_enter Tryz.func126,Tryz.ntmps126
 go_wp2_with fail
 refine ay 11 [] [] hm (h:=?_)
 repeat (refine ax (fun K hK=>?_);go_simp;refine hK _ ?_;clear hK K)
 refine lU fun nq osq=>?_
 try simp only[Act.put,aG]
 try dsimp only
 go_wp2_with fail
 go_end0
 exact⟨rfl,{ bF cur i with dep:=d-m },aI (HOW.out _) gw,mZ (eY ((Grew.refl W).grownBy _)) gw,HC.out,(HS.out _).gb (Grew.grownBy gw _),(Zj HG.out hgg).trans gw⟩
theorem acv (n:Int)(cur:List FV)(base g cap i:Nat)(W0 W:World)(hown:W.ownsRow base 65 9 (.slice (some ⟨g,0,none⟩) cur.length cap) cur.length (cur.flatMap FV.cells))(hi:i<cur.length)(hb:W0.heap.size<=base)(hg:Grew W0 W)(hs:Hw W g (bF cur i)) :
  Calls Tryz.prog 127 #[.pointer (some ⟨g,i*9,none⟩),.int .i64 n] W (Uc W0 W base g cap cur i (fQ 4 n (bF cur i))):=by
 have hm:=aP
 obtain⟨fc,hf⟩:=vP hown rfl hi
 obtain⟨lg1,Uf⟩:=hown.lt g rfl
 have d4:=fc.c4
 have hown2:=fun (x:Int)=>PG hown hi x
 have hgg:W0.heap.size<=g:=by omega
 have hs2:=fun (x:Int)=>(hs.gb (eY (v:=.int .i64 x) (o:=i*9+4) ((Grew.refl W).grownBy (some g)))).same (f':={ bF cur i with dC:=x }) rfl rfl rfl rfl rfl
 have HOW:=hide hown2
 have HS:=hide hs2
 have HG:=hide hg
 obtain⟨d,hdd⟩:∃d,(bF cur i).dC=d:=⟨_,rfl⟩
 have HD:=hide hdd
 rw[hdd] at d4
 have hch:({ bF cur i with dC:=max d n }:FV).bare=(fQ 4 n (bF cur i)).bare:=by
  unfold fQ
  rw[if_neg (by omega),if_pos rfl,HD.out]
 have HC:=hide hch
 clear hown hs fc hown2 hs2 hg hdd hch
 go_enter Tryz.func127,Tryz.ntmps127
 go_wp2_with fail
 go_end0
 exact⟨rfl,{ bF cur i with dC:=max d n },HOW.out _,eY ((Grew.refl W).grownBy _),HC.out,HS.out _,Zj HG.out hgg⟩
theorem Ho (A:Option Addr)(c:Nat)(rs:List Pt):∀ (l:List FV) (i:Nat),i<l.length->(l.flatMap FV.cells).set (i*9+5) (.slice A rs.length c)=(l.set i { bF l i with aA:=A,ac:=c,area:=rs }).flatMap FV.cells
 | [],i,h=>by simp at h
 | a::l,0,_=>by simp[FV.cells,bF]
 | a::l,i+1,h=>by
  have ih:=Ho A c rs l i (by simpa using h)
  have e:bF (a::l) (i+1)=bF l i:=by unfold bF;rw[List.getD_cons_succ]
  rw[e,List.set_cons_succ,List.flatMap_cons,List.flatMap_cons,<-ih]
  rw[show (i+1)*9+5=(i*9+5)+1+1+1+1+1+1+1+1+1 by omega]
  simp[FV.cells]
theorem XH {w:World}{base g n cap i:Nat}{fs:List FV}(h:w.ownsRow base 65 9 (.slice (some ⟨g,0,none⟩) n cap) n (fs.flatMap FV.cells))(hi:i<fs.length)(A:Option Addr)(c:Nat)(rs:List Pt):(w.setCell ⟨g,i*9+5,none⟩ (.slice A rs.length c)).ownsRow base 65 9 (.slice (some ⟨g,0,none⟩) n cap) n ((fs.set i { bF fs i with aA:=A,ac:=c,area:=rs }).flatMap FV.cells):=by
 rw[<-Ho A c rs fs i hi]
 exact (h.stored _ _).1
theorem Vb (b:B4):(kP b).1.length<=4:=by
 unfold kP
 split
 ·split<;>simp[dh]
 ·simp
theorem ae3 (n:Int)(cur:List FV)(base g cap i:Nat)(W0 W:World)(hown:W.ownsRow base 65 9 (.slice (some ⟨g,0,none⟩) cur.length cap) cur.length (cur.flatMap FV.cells))(hi:i<cur.length)(hb:W0.heap.size<=base)(hg:Grew W0 W)(hs:Hw W g (bF cur i)) :
  Calls Tryz.prog 128 #[.pointer (some ⟨g,i*9,none⟩),.int .i64 n] W (Uc W0 W base g cap cur i (fQ 5 n (bF cur i))):=by
 have hm:=aP
 obtain⟨fc,hf⟩:=vP hown rfl hi
 obtain⟨lg1,Uf⟩:=hown.lt g rfl
 have d5:=fc.c5
 have hrd:=hs.rd
 have kb:=hide (fun X (hg:Grew W X)=>aax (bF cur i).area (bF cur i).aA (bF cur i).ac X (hrd.area.up hg) hrd.la)
 have kr:=hide (fun X=>MC (ve (bF cur i).area).1 X)
 have hgg:W0.heap.size<=g:=by omega
 have HG:=hide hg
 have HO:=hide hown
 have HS:=hide hs
 have hch:∀A c,({ bF cur i with aA:=A,ac:=c,area:=(kP (ve (bF cur i).area).1).1 }:FV).bare=(fQ 5 n (bF cur i)).bare:=fun A c=>by
  unfold fQ
  rw[if_neg (by omega),if_neg (by omega),if_pos rfl]
  rfl
 have HC:=hide hch
 have hrl:=Vb (ve (bF cur i).area).1
 clear hown hs hg fc hrd hch
 go_enter Tryz.func128,Tryz.ntmps128
 go_wp2_with (go_at_call 148;with_reducible refine aQ (kb.out _ gw) fun _ _=>?_;dsimp only)
 refine (kr.out _).mono ?_
 rintro e W1 ⟨v,rfl,hown,hg1⟩
 have jE:Hid (Grew W W1):=hide (Grew.trans gw hg1)
 have hown3:=yV hown (base':=W.heap.size) (Grew.below (w:=W) gw).size
 obtain⟨A',c',rfl,hc',agl⟩:=Rd.iE ni hown3 rfl
 have Ui:=hide hown3
 have e1:=(jE.out.below.cell (p:=⟨g,i*9+5,none⟩) Uf).trans d5
 have e2:=(jE.out.below.frozen (p:=⟨g,i*9+5,none⟩) Uf).trans (hf _)
 have e3:g<W1.heap.size:=Nat.lt_of_lt_of_le Uf jE.out.below.size
 clear hown hg1 hown3 agl kb
 dsimp only
 generalize (kP (ve (bF cur i).area).1).2=er at *
 generalize (kP (ve (bF cur i).area).1).1=rs at *
 go_wp2_with fail
 go_end0
 refine⟨rfl,{ bF cur i with aA:=A',ac:=c',area:=rs },XH (aI HO.out jE.out) hi A' c' rs,eY (jE.out.grownBy _),HC.out A' c',fun w2 k2=>?_,Zj (HG.out.trans jE.out) hgg⟩
 have k3:W1.grownBy w2 (some g):=sW (eY ((Grew.refl W1).grownBy _)) k2
 have hk:=Ui.out.kept k3 (.inr (by
  intro e
  have:=Ui.out.lt g e
  omega))
 obtain⟨A2,c2,he,_,hr2⟩:=Rd.iE (f:=dY) ni hk rfl
 have hA:A'=A2:=by injection he
 have hold:=HS.out w2 (sW (jE.out.grownBy _) k3)
 exact⟨by rw[hA];exact hr2,hold.secs,by show rs.length<=_;omega,hold.ls,hold.lc⟩
def Cm (o k n:Int)(f:FV):FV:=if f.kind=k then fQ o n f else f
def jg (o k n:Int)(fs:List FV):List FV:=(if o=3 then fO k n fs else fs).map (Cm o k n)
def bP (o k n:Int)(fs:List FV):List FV×Int:=if (iD o k n&&bQ fs)=true then (if bQ (jg o k n fs)=true then (jg o k n fs,0) else ([],3)) else ([],1)
theorem EU {o k n:Int}(h:o=1\/o=3)(fs:List FV):fs.map (Cm o k n)=fs:=by
 have:Cm o k n=id:=by
  funext f
  unfold Cm fQ
  rw[if_neg (show ¬ o=2 by omega),if_neg (show ¬ o=4 by omega),if_neg (show ¬ o=5 by omega)]
  split<;>rfl
 rw[this,List.map_id]
theorem Du {fs:List FV}{k:Nat}(h:k<fs.length)(g:FV->FV):bF (fs.map g) k=g (bF fs k):=by
 have:=dI h
 unfold bF
 rw[List.getD_eq_getElem?_getD,List.getElem?_map,this]
 rfl
theorem Gg (fs:List FV):∀k,k<=fs.length->upTo (fs.map FV.bare) k=upTo fs k
 | 0,_=>rfl
 | k+1,h=>by
  have ih:=Gg fs k (by omega)
  unfold upTo at ih ⊢
  rw[List.range_succ,List.all_append,List.all_append,ih]
  congr 1
  simp only[List.all_cons,List.all_nil,Bool.and_true]
  unfold FC vW
  rw[Du (by omega)]
  by_cases h0:k=0
  ·subst h0
   rfl
  ·rw[if_neg h0,if_neg h0,Du (by omega)]
   rfl
theorem yJ (fs:List FV):bQ (fs.map FV.bare)=bQ fs:=by
 unfold bQ
 rw[List.length_map,Gg fs _ (Nat.le_refl _)]
theorem tJ {fs gs:List FV}(h:fs.map FV.bare=gs.map FV.bare):bQ fs=bQ gs:=by rw[<-yJ fs,h,yJ gs]
theorem N7 {fs gs:List FV}(h:fs.map FV.bare=gs.map FV.bare):fs.length=gs.length:=by simpa using congrArg List.length h
def CO (w:World)(r:List FV×Int)(e:Ending)(w':World):Prop:=∃A' c' fs',e=.returned (.tuple #[.slice A' fs'.length c',.int .i64 r.2])/\fs'.map FV.bare=r.1.map FV.bare/\nI w' w'.heap.size A' fs'/\Grew w w'
theorem Ud (o k n:Int)(fs:List FV)(A:Option Addr)(c:Nat)(w:World)(hr:nI w w.heap.size A fs)(hc:fs.length<=100000000000000)(h:¬ (iD o k n&&bQ fs)=true) :
  Calls Tryz.prog 68 #[PE o k n,.slice A fs.length c] w (CO w ([],1)):=by
 have hm:=aP
 obtain⟨u,hu⟩:∃u,iD o k n=u:=⟨_,rfl⟩
 obtain⟨v,hv⟩:∃u,bQ fs=u:=⟨_,rfl⟩
 have k1:=hide (fun W=>qx o k n u W hu)
 have k2:=hide (fun W (hg:Grew w W)=>iO fs A c v W (hr.up hg) hc hv)
 rw[hu,hv] at h
 clear hu hv hr
 have hcase:u=false\/(u=true/\v=false):=by cases u<;>cases v<;>simp at h ⊢
 rcases hcase with rfl|⟨rfl,rfl⟩
 all_goals
  clear h
  go_enter Tryz.func68,Tryz.ntmps68
  go_wp2_with (first|(go_at_call 74;with_reducible refine aQ (k1.out _) fun _ _=>?_;dsimp only)|(go_at_call 37;with_reducible refine aQ (k2.out _ gw) fun _ _=>?_;dsimp only))
  go_ret2
  exact⟨none,0,[],rfl,rfl,nI.nil _ _ _,gw⟩
theorem Xf (W:World):(binOp .neq 159 .nilFunc .nilFunc).run Tryz.prog W=.ok (.bool false) W:=by kernel_rfl
theorem Zo (n:Nat)(W:World):(binOp .neq 159 (.func (.func n) #[] #[]) .nilFunc).run Tryz.prog W=.ok (.bool true) W:=by kernel_rfl
theorem rE {o n:Int}{f g:FV}(h:f.bare=g.bare):(fQ o n f).bare=(fQ o n g).bare:=by
 have e:∀f:FV,(fQ o n f).bare=(fQ o n f.bare).bare:=fun f=>by
  unfold fQ
  split
  ·rfl
  ·split
   ·rfl
   ·split<;>rfl
 rw[e f,h,<-e g]
theorem Bq {f g:FV}(h:f.bare=g.bare):f.kind=g.kind:=by
 have:=congrArg FV.kind h
 exact this
theorem E5 {f g:FV}(h:f.bare=g.bare):f.dep=g.dep:=by
 have:=congrArg FV.dep h
 exact this
theorem Ah {f:FV}(h:bf f=true):0<=f.dep/\f.dep<=100000:=by
 unfold bf wP at h
 rw[Bool.and_eq_true,decide_eq_true_eq] at h
 exact h.1.2.2.1
theorem xB {fs:List FV}{i j:Nat}{f:FV}(h:i<fs.length):bF (fs.set i f) j=if j=i then f else bF fs j:=by
 unfold bF
 rw[List.getD_eq_getElem?_getD,List.getD_eq_getElem?_getD]
 by_cases e:j=i
 ·subst e
  rw[List.getElem?_set_self h,if_pos rfl]
  rfl
 ·rw[List.getElem?_set_ne (fun x=>e x.symm),if_neg e]
theorem NU {fs gs:List FV}{g h:FV->FV}(hl:fs.length=gs.length)(hp:∀j,j<gs.length->g (bF fs j)=h (bF gs j)):fs.map g=gs.map h:=by
 apply List.ext_getElem?
 intro j
 rw[List.getElem?_map,List.getElem?_map]
 by_cases hj:j<gs.length
 ·rw[dI hj,dI (by omega)]
  exact congrArg some (hp j hj)
 ·rw[List.getElem?_eq_none (by omega),List.getElem?_eq_none (by omega)]
  rfl
attribute [local go_sem] Xf Zo
theorem aaD (k n:Int)(fs:List FV)(A:Option Addr)(c:Nat)(w:World)(hr:nI w w.heap.size A fs)(hu:iD 1 k n=true)(hv:bQ fs=true) :
  Calls Tryz.prog 68 #[PE 1 k n,.slice A fs.length c] w (CO w (bP 1 k n fs)):=by
 have hm:=aP
 have hlen:=jU hv
 have k1:=hide (fun W=>qx 1 k n true W hu)
 have k2:=hide (fun W (hg:Grew w W)=>iO fs A c true W (hr.up hg) (by omega) hv)
 have HR:=hide hr
 have HV:=hide hv
 have HU:=hide hu
 clear hu hv hr
 go_enter Tryz.func68,Tryz.ntmps68
 go_wp2_with (first|(go_at_call 74;with_reducible refine aQ (k1.out _) fun _ _=>?_;dsimp only)|(go_at_call 37;with_reducible refine aQ (k2.out _ gw) fun _ _=>?_;dsimp only))
 refine (jB fs A c _ (HR.out.row.up gw) (by omega)).mono ?_
 rintro e W1 ⟨v1,rfl,hown,hg⟩
 have mF:Hid (dK W1 w.heap.size 1 k n):=hide (dK.up (dK.new w 1 k n) (Grew.trans gw hg))
 have jE:Hid (Grew w W1):=hide (Grew.trans gw hg)
 obtain⟨A1,c1,rfl,hc1,zD⟩:=Rd.iE fZ hown rfl
 have MJ:=hide hown
 have ac0:=hide zD
 have hB1:=mF.out.2
 have hB0:=mF.out.1
 clear hown hg zD k1 k2
 dsimp only
 go_wp2_with fail
 refine fC ?_
 intro W2 hW
 have HG2:Hid (Grew W1 W2):=hide (by rw[<-hW];exact gw)
 have pJ:=hide (mF.out.up (HG2.out))
 have hB2:=pJ.out.2
 clear hW hB0 hB1
 refine wp_region_held_drew (S:=(fun w'=>w'.cell? ⟨w.heap.size,0,none⟩=some (.int .i64 1)/\w'.cell? ⟨w.heap.size,1,none⟩=some (.int .i64 k)/\w'.cell? ⟨w.heap.size,2,none⟩=some (.int .i64 n))) hm ?_ (fun hHeld=>?_)
 ·exact (dK.up pJ.out gw).1
 refine tk 1 ?_
 try simp only[Act.put,aG,bT]
 refine tk 2 ?_
 try simp only[Act.put,aG,bT]
 refine wpAnyH_ready (rs:=[0]) (by kernel_rfl) (by simp) ?_
 refine AllReadyH.cons (o:=_) rfl (fun K hK=>?_) AllReadyH.nil
 go_simp
 (first|((go_at_call 96);(refine (gq _).mono ?_);rintro e Wn ⟨g,b1,b2,b3,b4,b5,rfl,hF,hgr⟩;have F5:Hid (Grew W2 Wn):=hide (Grew.trans gw hgr);obtain⟨s,q0,q1,q2,q3,q4⟩:=hF.k1';clear hF hgr q0 q1 q2 q3;dsimp only)|skip)
 refine hK.out _ _ ?_ (fun hHeld=>?_)
 ·exact (dK.up pJ.out gw).1
 clear hK K
 try simp only[Act.put,aG,bT]
 refine tk 3 ?_
 try simp only[Act.put,aG,bT]
 refine tk 4 ?_
 try simp only[Act.put,aG,bT]
 refine wpAnyH_ready (rs:=[5]) (by kernel_rfl) (by simp) ?_
 refine AllReadyH.cons (o:=_) rfl (fun K hK=>?_) AllReadyH.nil
 go_simp
 (first|((go_at_call 96);(refine (gq _).mono ?_);rintro e Wn ⟨g,b1,b2,b3,b4,b5,rfl,hF,hgr⟩;have F5:Hid (Grew W2 Wn):=hide (Grew.trans gw hgr);obtain⟨s,q0,q1,q2,q3,q4⟩:=hF.k1';clear hF hgr q0 q1 q2 q3;dsimp only)|skip)
 refine hK.out _ _ ?_ (fun hHeld=>?_)
 ·exact (dK.up pJ.out gw).1
 clear hK K
 try simp only[Act.put,aG,bT]
 refine tk 6 ?_
 try simp only[Act.put,aG,bT]
 refine wpAnyH_done (by kernel_rfl) ?_ _
 have MR:=hide (⟨ac0.out.up HG2.out,fun f hf=>(HR.out.each f hf).up (jE.out.trans HG2.out)⟩:nI W2 W2.heap.size A1 fs)
 have MQ:=hide (jE.out.trans HG2.out)
 go_wp2_with fail
 obtain⟨r,hr⟩:∃r,bQ fs=r:=⟨_,rfl⟩
 have k3:=hide (fun W (hg:Grew W2 W)=>iO fs A1 c1 r W (MR.out.up hg) (by omega) hr)
 have hap:bP 1 k n fs=if r=true then (fs,0) else ([],3):=by
  unfold bP
  rw[HU.out,HV.out,if_pos (by rfl)]
  have e:jg 1 k n fs=fs:=by
   unfold jg
   rw[EU (by omega)]
   rfl
  rw[e,hr]
 have Hu:=hide hap
 clear hr hap
 cases r
 ·go_wp2_with (go_at_call 37;with_reducible refine aQ (k3.out _ gw) fun _ _=>?_;dsimp only)
  go_ret2
  rw[Hu.out,if_neg (by simp)]
  exact⟨none,0,[],rfl,rfl,nI.nil _ _ _,MQ.out.trans gw⟩
 ·go_wp2_with (go_at_call 37;with_reducible refine aQ (k3.out _ gw) fun _ _=>?_;dsimp only)
  go_ret2
  rw[Hu.out,if_pos (by trivial)]
  exact⟨A1,c1,fs,rfl,rfl,MR.out.up gw,MQ.out.trans gw⟩
set_option maxHeartbeats 8000000
set_option maxRecDepth 100000
theorem aaC (k n:Int)(fs:List FV)(A:Option Addr)(c:Nat)(w:World)(hr:nI w w.heap.size A fs)(hu:iD 2 k n=true)(hv:bQ fs=true) :
  Calls Tryz.prog 68 #[PE 2 k n,.slice A fs.length c] w (CO w (bP 2 k n fs)):=by
 have hm:=aP
 have hlen:=jU hv
 have k1:=hide (fun W=>qx 2 k n true W hu)
 have k2:=hide (fun W (hg:Grew w W)=>iO fs A c true W (hr.up hg) (by omega) hv)
 have hn:1<=n/\n<=1000:=by
  unfold iD at hu
  rw[Bool.and_eq_true,Bool.and_eq_true] at hu
  have:=hu.2.2
  rw[decide_eq_true_eq] at this
  exact this
 have HR:=hide hr
 have HV:=hide hv
 have HU:=hide hu
 clear hu hv hr
 go_enter Tryz.func68,Tryz.ntmps68
 go_wp2_with (first|(go_at_call 74;with_reducible refine aQ (k1.out _) fun _ _=>?_;dsimp only)|(go_at_call 37;with_reducible refine aQ (k2.out _ gw) fun _ _=>?_;dsimp only))
 refine (jB fs A c _ (HR.out.row.up gw) (by omega)).mono ?_
 rintro e W1 ⟨v1,rfl,hown,hg⟩
 obtain⟨W0,hW0⟩:∃X,X=w.alloc (.cells #[.int .i64 2,.int .i64 k,.int .i64 n] 71):=⟨_,rfl⟩
 have hs0:W0.heap.size=w.heap.size+1:=by rw[hW0];simp
 have Ad:Hid (dK W0 w.heap.size 2 k n):=hide (by rw[hW0];exact dK.new w 2 k n)
 have lN:Hid (Grew w W0):=hide (by rw[hW0];exact gw)
 have jE:Hid (Grew W0 W1):=hide (by rw[hW0];exact Grew.trans gw hg)
 have HOW:Hid (W1.ownsRow W0.heap.size 65 9 v1 fs.length (fs.flatMap FV.cells)):=hide (yV hown (by rw[hs0];simp[size_grow,bU];try omega))
 obtain⟨A1,c1,rfl,hc1,zD⟩:=Rd.iE fZ hown rfl
 have hB0:=(Ad.out.up jE.out).1
 have hB1:=(Ad.out.up jE.out).2
 clear hown hg zD k1 k2 hW0
 dsimp only
 go_wp2_with fail
 refine fC ?_
 intro W2 hW
 have HG2:Hid (Grew W1 W2):=hide (by rw[<-hW];exact gw)
 have pJ:=hide (Ad.out.up (jE.out.trans HG2.out))
 have hB2:=pJ.out.2
 clear hW hB0 hB1
 refine wp_region_held_drew (S:=(fun w'=>w'.cell? ⟨w.heap.size,0,none⟩=some (.int .i64 2)/\w'.cell? ⟨w.heap.size,1,none⟩=some (.int .i64 k)/\w'.cell? ⟨w.heap.size,2,none⟩=some (.int .i64 n))) hm ?_ (fun hHeld=>?_)
 ·exact (dK.up pJ.out gw).1
 refine tk 1 ?_
 try simp only[Act.put,aG,bT]
 refine tk 2 ?_
 try simp only[Act.put,aG,bT]
 refine wpAnyH_ready (rs:=[0]) (by kernel_rfl) (by simp) ?_
 refine AllReadyH.cons (o:=_) rfl (fun K hK=>?_) AllReadyH.nil
 go_simp
 (first|((go_at_call 96);(refine (gq _).mono ?_);rintro e Wn ⟨g,b1,b2,b3,b4,b5,rfl,hF,hgr⟩;have F5:Hid (Grew W2 Wn):=hide (Grew.trans gw hgr);obtain⟨s,q0,q1,q2,q3,q4⟩:=hF.k2';clear hF hgr q0 q1 q2 q3;dsimp only)|skip)
 refine hK.out _ _ ?_ (fun hHeld=>?_)
 ·exact (dK.up pJ.out gw).1
 clear hK K
 try simp only[Act.put,aG,bT]
 refine tk 3 ?_
 try simp only[Act.put,aG,bT]
 refine tk 4 ?_
 try simp only[Act.put,aG,bT]
 refine wpAnyH_ready (rs:=[5]) (by kernel_rfl) (by simp) ?_
 refine AllReadyH.cons (o:=_) rfl (fun K hK=>?_) AllReadyH.nil
 go_simp
 (first|((go_at_call 96);(refine (gq _).mono ?_);rintro e Wn ⟨g,b1,b2,b3,b4,b5,rfl,hF,hgr⟩;have F5:Hid (Grew W2 Wn):=hide (Grew.trans gw hgr);obtain⟨s,q0,q1,q2,q3,q4⟩:=hF.k2';clear hF hgr q0 q1 q2 q3;dsimp only)|skip)
 refine hK.out _ _ ?_ (fun hHeld=>?_)
 ·exact (dK.up pJ.out gw).1
 clear hK K
 try simp only[Act.put,aG,bT]
 refine tk 6 ?_
 try simp only[Act.put,aG,bT]
 refine wpAnyH_done (by kernel_rfl) ?_ _
 go_wp2_with fail
 refine fC ?_
 intro W4 hW
 have qK:Hid (Grew W0 W4):=hide (by rw[<-hW];exact jE.out.trans (HG2.out.trans gw))
 have HO4:Hid (W4.ownsRow W0.heap.size 65 9 (.slice A1 fs.length c1) fs.length (fs.flatMap FV.cells)):=hide (by rw[<-hW];exact aI HOW.out (HG2.out.trans gw))
 obtain⟨gk,hgk⟩:∃g:Nat,∀b,A1=some ⟨b,0,none⟩->b=g:=⟨A1.elim 0 Addr.block,fun b e=>by rw[e];rfl⟩
 have Ul:=hide hgk
 have hA1:fs.length≠0->A1=some ⟨gk,0,none⟩/\W0.heap.size<=gk:=fun h0=>by
  rcases HOW.out.2 with⟨h',h1⟩|⟨g',cap',cur,h',hb',_⟩
  ·omega
  ·simp only[Value.slice.injEq] at h'
   have:=Ul.out g' h'.1
   subst this
   exact⟨h'.1,hb'⟩
 have HA1:=hide hA1
 clear hW q4 hgk hA1 hB2 hHeld
 go_loopw [35] (fun i wr=>∃ (m:Nat) (cur:List FV),m<=fs.length/\i=.int .i64 m/\cur.length=fs.length/\Grew W0 wr/\wr.ownsRow W0.heap.size 65 9 (.slice A1 fs.length c1) fs.length (cur.flatMap FV.cells)/\Hid (∀j,j<fs.length->Hw wr gk (bF cur j))/\Hid (∀j,j<fs.length->(bF cur j).bare=(if j<m then Cm 2 k n (bF fs j) else bF fs j).bare)) (fun i _=>fs.length-(intOf i).toNat)
 case atStart=>exact⟨0,fs,by omega,rfl,rfl,qK.out,HO4.out,hide (fun j hj=>Hw.of ((HR.out.each _ (dQ hj)).grew (lN.out.trans qK.out) (Nat.le_refl _) lN.out.below.size) qK.out.below.size (HA1.out (by omega)).2),hide (fun j hj=>by rw[if_neg (by omega)])⟩
 case round =>
  obtain⟨m,cur,hmm,rfl,hcl,hg,hown,HS,QN⟩:=hrel
  have HG:=hide hg
  have HO:=hide hown
  by_cases hlt:m<fs.length
  ·obtain⟨rfl,SE⟩:=HA1.out (by omega)
   have hown3:=hown
   rw[<-hcl] at hown3
   have Ui:=hide hown3
   obtain⟨fc,hfz⟩:=vP hown3 rfl (k:=m) (by omega)
   obtain⟨lg1,Uf⟩:=hown.lt gk rfl
   have hbr:=QN.out m hlt
   rw[if_neg (by omega)] at hbr
   have HBM:=hide hbr
   have hkd:=Bq hbr
   have d1:=fc.c1
   rw[hkd] at d1
   obtain⟨⟨r0,r1,r2⟩,lR⟩:=Ad.out.up hg
   have hix:=aO (cap:=c1) (k:=m) (len:=fs.length) Tryz.underlying23 Tryz.sizeOf65 (A:=some ⟨gk,0,none⟩) rfl hlt
   rw[Nat.zero_add] at hix
   have hdp:=Ah (fB HV.out _ (dQ hlt))
   rw[<-E5 hbr] at hdp
   have kc:Hid (∀X,Grew wr X->Calls Tryz.prog 126 #[.pointer (some ⟨gk,m*9,none⟩),.int .i64 n] X (Uc W0 X W0.heap.size gk c1 cur m (fQ 2 n (bF cur m)))):=hide (fun X hx=>YG n cur W0.heap.size gk c1 m W0 X (aI Ui.out hx) (by omega) (Nat.le_refl _) (HG.out.trans hx) ((HS.out m hlt).gb (hx.grownBy _)) hn hdp)
   clear fc hg hown hown3 hbr hdp
   by_cases hk:(bF fs m).kind=k
   ·have HK:=hide hk
    rw[hk] at d1 hkd
    clear hk hkd
    go_wp2_with fail
    refine ay 8 [] [] hm (h:=?_)
    repeat (refine ax (fun K hK=>?_);go_simp;refine hK _ ?_;clear hK K)
    refine lU fun nq osq=>?_
    try simp only[Act.put,aG]
    try dsimp only
    go_wp2_with fail
    refine ay 6 [] [] hm (h:=?_)
    repeat (refine ax (fun K hK=>?_);go_simp;refine hK _ ?_;clear hK K)
    refine lU fun nqb abO=>?_
    try simp only[Act.put,aG]
    try dsimp only
    go_wp2_with fail
    refine (kc.out _ gw).mono ?_
    rintro e w' ⟨rfl,f',hown',hgb,hba,hst',hg'⟩
    have HO':=hide hown'
    have HST:=hide hst'
    have HG':=hide hg'
    have HBA:=hide hba
    have X3:Hid (wr.grownBy w' (some gk)):=hide (sW (Grew.grownBy gw _) hgb)
    clear hown' hgb hst' hg' hba
    dsimp only
    go_wp2_with fail
    go_roundw
    case rel =>
     refine⟨m+1,cur.set m f',by omega,by go_num,by rw[List.length_set];exact hcl,HG'.out.trans gw,by have:=aI HO'.out (w':=_) gw;rw[hcl] at this;exact this,hide (fun j hj=>?_),hide (fun j hj=>?_)⟩
     ·rw[xB (by omega)]
      split
      ·exact HST.out.gb (Grew.grownBy gw _)
      ·exact ((HS.out j hj).gb X3.out).gb (Grew.grownBy gw _)
     ·rw[xB (by omega)]
      split
      ·rename_i e
       subst e
       rw[HBA.out,if_pos (by omega)]
       unfold Cm
       rw[if_pos HK.out]
       exact rE HBM.out
      ·rw[QN.out j hj]
       by_cases h5:j<m
       ·rw[if_pos h5,if_pos (by omega)]
       ·rw[if_neg h5,if_neg (by omega)]
    case measure=>simp[intOf];omega
   ·have HK:=hide hk
    have hk2:((bF fs m).kind==k)=false:=by simpa using hk
    generalize (bF fs m).kind=kd at d1 hk2 hkd hk
    go_wp2_with fail
    refine ay 8 [] [] hm (h:=?_)
    repeat (refine ax (fun K hK=>?_);go_simp;refine hK _ ?_;clear hK K)
    refine lU fun nq osq=>?_
    try simp only[Act.put,aG]
    try dsimp only
    go_wp2_with fail
    go_roundw
    case rel =>
     refine⟨m+1,cur,by omega,by go_num,hcl,HG.out.trans gw,aI HO.out gw,hide (fun j hj=>(HS.out j hj).gb (Grew.grownBy gw _)),hide (fun j hj=>?_)⟩
     rw[QN.out j hj]
     by_cases h5:j<m
     ·rw[if_pos h5,if_pos (by omega)]
     ·rw[if_neg h5]
      by_cases h6:j=m
      ·subst h6
       rw[if_pos (by omega)]
       unfold Cm
       rw[if_neg HK.out]
      ·rw[if_neg (by omega)]
    case measure=>simp[intOf];omega
  ·obtain rfl:m=fs.length:=by omega
   have hmb:cur.map FV.bare=(jg 2 k n fs).map FV.bare:=by
    unfold jg
    rw[if_neg (by omega),List.map_map]
    exact NU hcl fun j hj=>by
     rw[QN.out j hj,if_pos hj]
     rfl
   have hfl:=tJ hmb
   obtain⟨A9,c9,he9,_,KR⟩:=Rd.iE fZ hown hcl.symm
   obtain⟨rfl,rfl⟩:A1=A9/\c1=c9:=by injection he9 with h1 h2 h3;exact⟨h1,h3⟩
   have MR:Hid (nI wr wr.heap.size A1 cur):=hide ⟨KR,fun f hf=>by
    obtain⟨j,hj,e⟩:=List.getElem_of_mem hf
    have:=(HS.out j (by omega)).rd
    have a:=dI hj
    rw[List.getElem?_eq_getElem hj,e] at a
    injection a with a
    rw[a]
    exact this⟩
   obtain⟨r,hr⟩:∃r,bQ cur=r:=⟨_,rfl⟩
   have k3:=hide (fun W (hg:Grew wr W)=>iO cur A1 c1 r W (MR.out.up hg) (by omega) hr)
   rw[hcl] at k3
   have hap:bP 2 k n fs=if r=true then (jg 2 k n fs,0) else ([],3):=by
    unfold bP
    rw[HU.out,HV.out,if_pos (by rfl),<-hfl,hr]
   have Hu:=hide hap
   have HMB:=hide hmb
   clear hr hap hmb hfl hg hown KR he9
   cases r
   ·go_wp2_with (go_at_call 37;with_reducible refine aQ (k3.out _ gw) fun _ _=>?_;dsimp only)
    go_ret2
    rw[Hu.out,if_neg (by simp)]
    exact⟨none,0,[],rfl,rfl,nI.nil _ _ _,lN.out.trans (HG.out.trans gw)⟩
   ·go_wp2_with (go_at_call 37;with_reducible refine aQ (k3.out _ gw) fun _ _=>?_;dsimp only)
    go_ret2
    rw[Hu.out,if_pos (by trivial)]
    exact⟨A1,c1,cur,by rw[hcl];rfl,HMB.out,MR.out.up gw,lN.out.trans (HG.out.trans gw)⟩
theorem UF {k n:Int}{fs:List FV}(hv:bQ fs=true):∀g,g∈fO k n fs->Src fs g:=by
 intro g hg
 have hg2:=(List.mergeSort_perm _ _).mem_iff.1 hg
 have hds:∀f,f∈dM k fs->f∈fs:=fun f hf=>(List.mem_filter.1 ((nS k fs).mem_iff.1 hf)).1
 rcases List.mem_append.1 hg2 with h|h
 ·exact Src.of (List.mem_filter.1 h).1
 ·exact ((zA (n:=n) (fun f hf=>Ag (fB hv f (hds f hf))) _ (Nat.le_refl _) g h).src).mono hds
theorem UG (k n:Int)(fs:List FV):(fO k n fs).length<=fs.length:=by
 unfold fO
 rw[List.length_mergeSort,List.length_append]
 have h1:=kept_len (n:=n) (ds:=dM k fs) (Nat.le_refl _)
 have h2:(dM k fs).length=(fs.filter (isKind k)).length:=List.length_mergeSort _
 have h3:=(List.filter_append_perm (isKind k) fs).length_eq
 rw[List.length_append] at h3
 unfold fH
 omega
def afK (w:World)(r:List FV×Int)(e:Ending)(w':World):Prop:=∃A' c' fs',e=.returned (.tuple #[.slice A' fs'.length c',.int .i64 r.2])/\fs'.map FV.bare=r.1.map FV.bare/\nI w' w'.heap.size A' fs'/\Grew w w'/\fs'.length<=c'
theorem Yc (k n:Int)(fs:List FV)(A:Option Addr)(c:Nat)(w:World)(hr:nI w w.heap.size A fs)(hu:iD 3 k n=true)(hv:bQ fs=true) :
  Calls Tryz.prog 68 #[PE 3 k n,.slice A fs.length c] w (afK w (bP 3 k n fs)):=by
 have hm:=aP
 have hlen:=jU hv
 have k1:=hide (fun W=>qx 3 k n true W hu)
 have k2:=hide (fun W (hg:Grew w W)=>iO fs A c true W (hr.up hg) (by omega) hv)
 have HR:=hide hr
 have HV:=hide hv
 have HU:=hide hu
 clear hu hv hr
 go_enter Tryz.func68,Tryz.ntmps68
 go_wp2_with (first|(go_at_call 74;with_reducible refine aQ (k1.out _) fun _ _=>?_;dsimp only)|(go_at_call 37;with_reducible refine aQ (k2.out _ gw) fun _ _=>?_;dsimp only))
 refine (jB fs A c _ (HR.out.row.up gw) (by omega)).mono ?_
 rintro e W1 ⟨v1,rfl,hown,hg⟩
 have mF:Hid (dK W1 w.heap.size 3 k n):=hide (dK.up (dK.new w 3 k n) (Grew.trans gw hg))
 have jE:Hid (Grew w W1):=hide (Grew.trans gw hg)
 obtain⟨A1,c1,rfl,hc1,zD⟩:=Rd.iE fZ hown rfl
 have MJ:=hide hown
 have ac0:=hide zD
 have hB1:=mF.out.2
 have hB0:=mF.out.1
 clear hown hg zD k1 k2
 dsimp only
 go_wp2_with fail
 refine (UJ 3 k n fs A1 c1 _ (ac0.out.up gw) HV.out).mono ?_
 rintro e W3 ⟨A3,c3,rfl,hrd,hg,hcap⟩
 have HCAP:=hide hcap
 have vF:Hid (Grew W1 W3):=hide (Grew.trans gw hg)
 have JE:=hide hrd
 have hB0:=(mF.out.up vF.out).1
 have hB1:=(mF.out.up vF.out).2
 clear hrd hg hcap
 dsimp only
 go_wp2_with fail
 refine fC ?_
 intro W2 hW
 have HG2:Hid (Grew W3 W2):=hide (by rw[<-hW];exact gw)
 have pJ:=hide (mF.out.up (vF.out.trans HG2.out))
 have hB2:=pJ.out.2
 clear hW hB0 hB1
 refine wp_region_held_drew (S:=(fun w'=>w'.cell? ⟨w.heap.size,0,none⟩=some (.int .i64 3)/\w'.cell? ⟨w.heap.size,1,none⟩=some (.int .i64 k)/\w'.cell? ⟨w.heap.size,2,none⟩=some (.int .i64 n))) hm ?_ (fun hHeld=>?_)
 ·exact (dK.up pJ.out gw).1
 refine tk 1 ?_
 try simp only[Act.put,aG,bT]
 refine tk 2 ?_
 try simp only[Act.put,aG,bT]
 refine wpAnyH_ready (rs:=[0]) (by kernel_rfl) (by simp) ?_
 refine AllReadyH.cons (o:=_) rfl (fun K hK=>?_) AllReadyH.nil
 go_simp
 (first|((go_at_call 96);(refine (gq _).mono ?_);rintro e Wn ⟨g,b1,b2,b3,b4,b5,rfl,hF,hgr⟩;have F5:Hid (Grew W2 Wn):=hide (Grew.trans gw hgr);obtain⟨s,q0,q1,q2,q3,q4⟩:=hF.k3';clear hF hgr q0 q1 q2 q3;dsimp only)|skip)
 refine hK.out _ _ ?_ (fun hHeld=>?_)
 ·exact (dK.up pJ.out gw).1
 clear hK K
 try simp only[Act.put,aG,bT]
 refine tk 3 ?_
 try simp only[Act.put,aG,bT]
 refine tk 4 ?_
 try simp only[Act.put,aG,bT]
 refine wpAnyH_ready (rs:=[5]) (by kernel_rfl) (by simp) ?_
 refine AllReadyH.cons (o:=_) rfl (fun K hK=>?_) AllReadyH.nil
 go_simp
 (first|((go_at_call 96);(refine (gq _).mono ?_);rintro e Wn ⟨g,b1,b2,b3,b4,b5,rfl,hF,hgr⟩;have F5:Hid (Grew W2 Wn):=hide (Grew.trans gw hgr);obtain⟨s,q0,q1,q2,q3,q4⟩:=hF.k3';clear hF hgr q0 q1 q2 q3;dsimp only)|skip)
 refine hK.out _ _ ?_ (fun hHeld=>?_)
 ·exact (dK.up pJ.out gw).1
 clear hK K
 try simp only[Act.put,aG,bT]
 refine tk 6 ?_
 try simp only[Act.put,aG,bT]
 refine wpAnyH_done (by kernel_rfl) ?_ _
 have MR:=hide (⟨JE.out.up HG2.out,fun f hf=>((UF HV.out f hf).rd (fun f hf=>HR.out.each f hf)).up (jE.out.trans (vF.out.trans HG2.out))⟩:nI W2 W2.heap.size A3 (fO k n fs))
 have MQ:=hide (jE.out.trans (vF.out.trans HG2.out))
 have htl:=UG k n fs
 go_wp2_with fail
 obtain⟨r,hr⟩:∃r,bQ (fO k n fs)=r:=⟨_,rfl⟩
 have k3:=hide (fun W (hg:Grew W2 W)=>iO (fO k n fs) A3 c3 r W (MR.out.up hg) (by omega) hr)
 have hap:bP 3 k n fs=if r=true then ((fO k n fs),0) else ([],3):=by
  unfold bP
  rw[HU.out,HV.out,if_pos (by rfl)]
  have e:jg 3 k n fs=(fO k n fs):=by
   unfold jg
   rw[EU (by omega)]
   rfl
  rw[e,hr]
 have Hu:=hide hap
 clear hr hap
 cases r
 ·go_wp2_with (go_at_call 37;with_reducible refine aQ (k3.out _ gw) fun _ _=>?_;dsimp only)
  go_ret2
  rw[Hu.out,if_neg (by simp)]
  exact⟨none,0,[],rfl,rfl,nI.nil _ _ _,MQ.out.trans gw,by simp⟩
 ·go_wp2_with (go_at_call 37;with_reducible refine aQ (k3.out _ gw) fun _ _=>?_;dsimp only)
  go_ret2
  rw[Hu.out,if_pos (by trivial)]
  exact⟨A3,c3,(fO k n fs),rfl,rfl,MR.out.up gw,MQ.out.trans gw,HCAP.out⟩
theorem aaB (k n:Int)(fs:List FV)(A:Option Addr)(c:Nat)(w:World)(hr:nI w w.heap.size A fs)(hu:iD 3 k n=true)(hv:bQ fs=true) :
  Calls Tryz.prog 68 #[PE 3 k n,.slice A fs.length c] w (CO w (bP 3 k n fs)) :=
 (Yc k n fs A c w hr hu hv).mono fun e w' ⟨A',c',fs',h1,h2,h3,h4,_⟩=>⟨A',c',fs',h1,h2,h3,h4⟩
set_option maxHeartbeats 8000000
set_option maxRecDepth 100000
theorem aaA (k n:Int)(fs:List FV)(A:Option Addr)(c:Nat)(w:World)(hr:nI w w.heap.size A fs)(hu:iD 4 k n=true)(hv:bQ fs=true) :
  Calls Tryz.prog 68 #[PE 4 k n,.slice A fs.length c] w (CO w (bP 4 k n fs)):=by
 have hm:=aP
 have hlen:=jU hv
 have k1:=hide (fun W=>qx 4 k n true W hu)
 have k2:=hide (fun W (hg:Grew w W)=>iO fs A c true W (hr.up hg) (by omega) hv)
 have HR:=hide hr
 have HV:=hide hv
 have HU:=hide hu
 clear hu hv hr
 go_enter Tryz.func68,Tryz.ntmps68
 go_wp2_with (first|(go_at_call 74;with_reducible refine aQ (k1.out _) fun _ _=>?_;dsimp only)|(go_at_call 37;with_reducible refine aQ (k2.out _ gw) fun _ _=>?_;dsimp only))
 refine (jB fs A c _ (HR.out.row.up gw) (by omega)).mono ?_
 rintro e W1 ⟨v1,rfl,hown,hg⟩
 obtain⟨W0,hW0⟩:∃X,X=w.alloc (.cells #[.int .i64 4,.int .i64 k,.int .i64 n] 71):=⟨_,rfl⟩
 have hs0:W0.heap.size=w.heap.size+1:=by rw[hW0];simp
 have Ad:Hid (dK W0 w.heap.size 4 k n):=hide (by rw[hW0];exact dK.new w 4 k n)
 have lN:Hid (Grew w W0):=hide (by rw[hW0];exact gw)
 have jE:Hid (Grew W0 W1):=hide (by rw[hW0];exact Grew.trans gw hg)
 have HOW:Hid (W1.ownsRow W0.heap.size 65 9 v1 fs.length (fs.flatMap FV.cells)):=hide (yV hown (by rw[hs0];simp[size_grow,bU];try omega))
 obtain⟨A1,c1,rfl,hc1,zD⟩:=Rd.iE fZ hown rfl
 have hB0:=(Ad.out.up jE.out).1
 have hB1:=(Ad.out.up jE.out).2
 clear hown hg zD k1 k2 hW0
 dsimp only
 go_wp2_with fail
 refine fC ?_
 intro W2 hW
 have HG2:Hid (Grew W1 W2):=hide (by rw[<-hW];exact gw)
 have pJ:=hide (Ad.out.up (jE.out.trans HG2.out))
 have hB2:=pJ.out.2
 clear hW hB0 hB1
 refine wp_region_held_drew (S:=(fun w'=>w'.cell? ⟨w.heap.size,0,none⟩=some (.int .i64 4)/\w'.cell? ⟨w.heap.size,1,none⟩=some (.int .i64 k)/\w'.cell? ⟨w.heap.size,2,none⟩=some (.int .i64 n))) hm ?_ (fun hHeld=>?_)
 ·exact (dK.up pJ.out gw).1
 refine tk 1 ?_
 try simp only[Act.put,aG,bT]
 refine tk 2 ?_
 try simp only[Act.put,aG,bT]
 refine wpAnyH_ready (rs:=[0]) (by kernel_rfl) (by simp) ?_
 refine AllReadyH.cons (o:=_) rfl (fun K hK=>?_) AllReadyH.nil
 go_simp
 (first|((go_at_call 96);(refine (gq _).mono ?_);rintro e Wn ⟨g,b1,b2,b3,b4,b5,rfl,hF,hgr⟩;have F5:Hid (Grew W2 Wn):=hide (Grew.trans gw hgr);obtain⟨s,q0,q1,q2,q3,q4⟩:=hF.k4';clear hF hgr q0 q1 q2 q3;dsimp only)|skip)
 refine hK.out _ _ ?_ (fun hHeld=>?_)
 ·exact (dK.up pJ.out gw).1
 clear hK K
 try simp only[Act.put,aG,bT]
 refine tk 3 ?_
 try simp only[Act.put,aG,bT]
 refine tk 4 ?_
 try simp only[Act.put,aG,bT]
 refine wpAnyH_ready (rs:=[5]) (by kernel_rfl) (by simp) ?_
 refine AllReadyH.cons (o:=_) rfl (fun K hK=>?_) AllReadyH.nil
 go_simp
 (first|((go_at_call 96);(refine (gq _).mono ?_);rintro e Wn ⟨g,b1,b2,b3,b4,b5,rfl,hF,hgr⟩;have F5:Hid (Grew W2 Wn):=hide (Grew.trans gw hgr);obtain⟨s,q0,q1,q2,q3,q4⟩:=hF.k4';clear hF hgr q0 q1 q2 q3;dsimp only)|skip)
 refine hK.out _ _ ?_ (fun hHeld=>?_)
 ·exact (dK.up pJ.out gw).1
 clear hK K
 try simp only[Act.put,aG,bT]
 refine tk 6 ?_
 try simp only[Act.put,aG,bT]
 refine wpAnyH_done (by kernel_rfl) ?_ _
 go_wp2_with fail
 refine fC ?_
 intro W4 hW
 have qK:Hid (Grew W0 W4):=hide (by rw[<-hW];exact jE.out.trans (HG2.out.trans gw))
 have HO4:Hid (W4.ownsRow W0.heap.size 65 9 (.slice A1 fs.length c1) fs.length (fs.flatMap FV.cells)):=hide (by rw[<-hW];exact aI HOW.out (HG2.out.trans gw))
 obtain⟨gk,hgk⟩:∃g:Nat,∀b,A1=some ⟨b,0,none⟩->b=g:=⟨A1.elim 0 Addr.block,fun b e=>by rw[e];rfl⟩
 have Ul:=hide hgk
 have hA1:fs.length≠0->A1=some ⟨gk,0,none⟩/\W0.heap.size<=gk:=fun h0=>by
  rcases HOW.out.2 with⟨h',h1⟩|⟨g',cap',cur,h',hb',_⟩
  ·omega
  ·simp only[Value.slice.injEq] at h'
   have:=Ul.out g' h'.1
   subst this
   exact⟨h'.1,hb'⟩
 have HA1:=hide hA1
 clear hW q4 hgk hA1 hB2 hHeld
 go_loopw [35] (fun i wr=>∃ (m:Nat) (cur:List FV),m<=fs.length/\i=.int .i64 m/\cur.length=fs.length/\Grew W0 wr/\wr.ownsRow W0.heap.size 65 9 (.slice A1 fs.length c1) fs.length (cur.flatMap FV.cells)/\Hid (∀j,j<fs.length->Hw wr gk (bF cur j))/\Hid (∀j,j<fs.length->(bF cur j).bare=(if j<m then Cm 4 k n (bF fs j) else bF fs j).bare)) (fun i _=>fs.length-(intOf i).toNat)
 case atStart=>exact⟨0,fs,by omega,rfl,rfl,qK.out,HO4.out,hide (fun j hj=>Hw.of ((HR.out.each _ (dQ hj)).grew (lN.out.trans qK.out) (Nat.le_refl _) lN.out.below.size) qK.out.below.size (HA1.out (by omega)).2),hide (fun j hj=>by rw[if_neg (by omega)])⟩
 case round =>
  obtain⟨m,cur,hmm,rfl,hcl,hg,hown,HS,QN⟩:=hrel
  have HG:=hide hg
  have HO:=hide hown
  by_cases hlt:m<fs.length
  ·obtain⟨rfl,SE⟩:=HA1.out (by omega)
   have hown3:=hown
   rw[<-hcl] at hown3
   have Ui:=hide hown3
   obtain⟨fc,hfz⟩:=vP hown3 rfl (k:=m) (by omega)
   obtain⟨lg1,Uf⟩:=hown.lt gk rfl
   have hbr:=QN.out m hlt
   rw[if_neg (by omega)] at hbr
   have HBM:=hide hbr
   have hkd:=Bq hbr
   have d1:=fc.c1
   rw[hkd] at d1
   obtain⟨⟨r0,r1,r2⟩,lR⟩:=Ad.out.up hg
   have hix:=aO (cap:=c1) (k:=m) (len:=fs.length) Tryz.underlying23 Tryz.sizeOf65 (A:=some ⟨gk,0,none⟩) rfl hlt
   rw[Nat.zero_add] at hix
   have hdp:=Ah (fB HV.out _ (dQ hlt))
   rw[<-E5 hbr] at hdp
   have kc:Hid (∀X,Grew wr X->Calls Tryz.prog 127 #[.pointer (some ⟨gk,m*9,none⟩),.int .i64 n] X (Uc W0 X W0.heap.size gk c1 cur m (fQ 4 n (bF cur m)))):=hide (fun X hx=>acv n cur W0.heap.size gk c1 m W0 X (aI Ui.out hx) (by omega) (Nat.le_refl _) (HG.out.trans hx) ((HS.out m hlt).gb (hx.grownBy _)))
   clear fc hg hown hown3 hbr hdp
   by_cases hk:(bF fs m).kind=k
   ·have HK:=hide hk
    rw[hk] at d1 hkd
    clear hk hkd
    go_wp2_with fail
    refine ay 8 [] [] hm (h:=?_)
    repeat (refine ax (fun K hK=>?_);go_simp;refine hK _ ?_;clear hK K)
    refine lU fun nq osq=>?_
    try simp only[Act.put,aG]
    try dsimp only
    go_wp2_with fail
    refine ay 6 [] [] hm (h:=?_)
    repeat (refine ax (fun K hK=>?_);go_simp;refine hK _ ?_;clear hK K)
    refine lU fun nqb abO=>?_
    try simp only[Act.put,aG]
    try dsimp only
    go_wp2_with fail
    refine (kc.out _ gw).mono ?_
    rintro e w' ⟨rfl,f',hown',hgb,hba,hst',hg'⟩
    have HO':=hide hown'
    have HST:=hide hst'
    have HG':=hide hg'
    have HBA:=hide hba
    have X3:Hid (wr.grownBy w' (some gk)):=hide (sW (Grew.grownBy gw _) hgb)
    clear hown' hgb hst' hg' hba
    dsimp only
    go_wp2_with fail
    go_roundw
    case rel =>
     refine⟨m+1,cur.set m f',by omega,by go_num,by rw[List.length_set];exact hcl,HG'.out.trans gw,by have:=aI HO'.out (w':=_) gw;rw[hcl] at this;exact this,hide (fun j hj=>?_),hide (fun j hj=>?_)⟩
     ·rw[xB (by omega)]
      split
      ·exact HST.out.gb (Grew.grownBy gw _)
      ·exact ((HS.out j hj).gb X3.out).gb (Grew.grownBy gw _)
     ·rw[xB (by omega)]
      split
      ·rename_i e
       subst e
       rw[HBA.out,if_pos (by omega)]
       unfold Cm
       rw[if_pos HK.out]
       exact rE HBM.out
      ·rw[QN.out j hj]
       by_cases h5:j<m
       ·rw[if_pos h5,if_pos (by omega)]
       ·rw[if_neg h5,if_neg (by omega)]
    case measure=>simp[intOf];omega
   ·have HK:=hide hk
    have hk2:((bF fs m).kind==k)=false:=by simpa using hk
    generalize (bF fs m).kind=kd at d1 hk2 hkd hk
    go_wp2_with fail
    refine ay 8 [] [] hm (h:=?_)
    repeat (refine ax (fun K hK=>?_);go_simp;refine hK _ ?_;clear hK K)
    refine lU fun nq osq=>?_
    try simp only[Act.put,aG]
    try dsimp only
    go_wp2_with fail
    go_roundw
    case rel =>
     refine⟨m+1,cur,by omega,by go_num,hcl,HG.out.trans gw,aI HO.out gw,hide (fun j hj=>(HS.out j hj).gb (Grew.grownBy gw _)),hide (fun j hj=>?_)⟩
     rw[QN.out j hj]
     by_cases h5:j<m
     ·rw[if_pos h5,if_pos (by omega)]
     ·rw[if_neg h5]
      by_cases h6:j=m
      ·subst h6
       rw[if_pos (by omega)]
       unfold Cm
       rw[if_neg HK.out]
      ·rw[if_neg (by omega)]
    case measure=>simp[intOf];omega
  ·obtain rfl:m=fs.length:=by omega
   have hmb:cur.map FV.bare=(jg 4 k n fs).map FV.bare:=by
    unfold jg
    rw[if_neg (by omega),List.map_map]
    exact NU hcl fun j hj=>by
     rw[QN.out j hj,if_pos hj]
     rfl
   have hfl:=tJ hmb
   obtain⟨A9,c9,he9,_,KR⟩:=Rd.iE fZ hown hcl.symm
   obtain⟨rfl,rfl⟩:A1=A9/\c1=c9:=by injection he9 with h1 h2 h3;exact⟨h1,h3⟩
   have MR:Hid (nI wr wr.heap.size A1 cur):=hide ⟨KR,fun f hf=>by
    obtain⟨j,hj,e⟩:=List.getElem_of_mem hf
    have:=(HS.out j (by omega)).rd
    have a:=dI hj
    rw[List.getElem?_eq_getElem hj,e] at a
    injection a with a
    rw[a]
    exact this⟩
   obtain⟨r,hr⟩:∃r,bQ cur=r:=⟨_,rfl⟩
   have k3:=hide (fun W (hg:Grew wr W)=>iO cur A1 c1 r W (MR.out.up hg) (by omega) hr)
   rw[hcl] at k3
   have hap:bP 4 k n fs=if r=true then (jg 4 k n fs,0) else ([],3):=by
    unfold bP
    rw[HU.out,HV.out,if_pos (by rfl),<-hfl,hr]
   have Hu:=hide hap
   have HMB:=hide hmb
   clear hr hap hmb hfl hg hown KR he9
   cases r
   ·go_wp2_with (go_at_call 37;with_reducible refine aQ (k3.out _ gw) fun _ _=>?_;dsimp only)
    go_ret2
    rw[Hu.out,if_neg (by simp)]
    exact⟨none,0,[],rfl,rfl,nI.nil _ _ _,lN.out.trans (HG.out.trans gw)⟩
   ·go_wp2_with (go_at_call 37;with_reducible refine aQ (k3.out _ gw) fun _ _=>?_;dsimp only)
    go_ret2
    rw[Hu.out,if_pos (by trivial)]
    exact⟨A1,c1,cur,by rw[hcl];rfl,HMB.out,MR.out.up gw,lN.out.trans (HG.out.trans gw)⟩
theorem aaz (k n:Int)(fs:List FV)(A:Option Addr)(c:Nat)(w:World)(hr:nI w w.heap.size A fs)(hu:iD 5 k n=true)(hv:bQ fs=true) :
  Calls Tryz.prog 68 #[PE 5 k n,.slice A fs.length c] w (CO w (bP 5 k n fs)):=by
 have hm:=aP
 have hlen:=jU hv
 have k1:=hide (fun W=>qx 5 k n true W hu)
 have k2:=hide (fun W (hg:Grew w W)=>iO fs A c true W (hr.up hg) (by omega) hv)
 have HR:=hide hr
 have HV:=hide hv
 have HU:=hide hu
 clear hu hv hr
 go_enter Tryz.func68,Tryz.ntmps68
 go_wp2_with (first|(go_at_call 74;with_reducible refine aQ (k1.out _) fun _ _=>?_;dsimp only)|(go_at_call 37;with_reducible refine aQ (k2.out _ gw) fun _ _=>?_;dsimp only))
 refine (jB fs A c _ (HR.out.row.up gw) (by omega)).mono ?_
 rintro e W1 ⟨v1,rfl,hown,hg⟩
 obtain⟨W0,hW0⟩:∃X,X=w.alloc (.cells #[.int .i64 5,.int .i64 k,.int .i64 n] 71):=⟨_,rfl⟩
 have hs0:W0.heap.size=w.heap.size+1:=by rw[hW0];simp
 have Ad:Hid (dK W0 w.heap.size 5 k n):=hide (by rw[hW0];exact dK.new w 5 k n)
 have lN:Hid (Grew w W0):=hide (by rw[hW0];exact gw)
 have jE:Hid (Grew W0 W1):=hide (by rw[hW0];exact Grew.trans gw hg)
 have HOW:Hid (W1.ownsRow W0.heap.size 65 9 v1 fs.length (fs.flatMap FV.cells)):=hide (yV hown (by rw[hs0];simp[size_grow,bU];try omega))
 obtain⟨A1,c1,rfl,hc1,zD⟩:=Rd.iE fZ hown rfl
 have hB0:=(Ad.out.up jE.out).1
 have hB1:=(Ad.out.up jE.out).2
 clear hown hg zD k1 k2 hW0
 dsimp only
 go_wp2_with fail
 refine fC ?_
 intro W2 hW
 have HG2:Hid (Grew W1 W2):=hide (by rw[<-hW];exact gw)
 have pJ:=hide (Ad.out.up (jE.out.trans HG2.out))
 have hB2:=pJ.out.2
 clear hW hB0 hB1
 refine wp_region_held_drew (S:=(fun w'=>w'.cell? ⟨w.heap.size,0,none⟩=some (.int .i64 5)/\w'.cell? ⟨w.heap.size,1,none⟩=some (.int .i64 k)/\w'.cell? ⟨w.heap.size,2,none⟩=some (.int .i64 n))) hm ?_ (fun hHeld=>?_)
 ·exact (dK.up pJ.out gw).1
 refine tk 1 ?_
 try simp only[Act.put,aG,bT]
 refine tk 2 ?_
 try simp only[Act.put,aG,bT]
 refine wpAnyH_ready (rs:=[0]) (by kernel_rfl) (by simp) ?_
 refine AllReadyH.cons (o:=_) rfl (fun K hK=>?_) AllReadyH.nil
 go_simp
 (first|((go_at_call 96);(refine (gq _).mono ?_);rintro e Wn ⟨g,b1,b2,b3,b4,b5,rfl,hF,hgr⟩;have F5:Hid (Grew W2 Wn):=hide (Grew.trans gw hgr);obtain⟨s,q0,q1,q2,q3,q4⟩:=hF.k5';clear hF hgr q0 q1 q2 q3;dsimp only)|skip)
 refine hK.out _ _ ?_ (fun hHeld=>?_)
 ·exact (dK.up pJ.out gw).1
 clear hK K
 try simp only[Act.put,aG,bT]
 refine tk 3 ?_
 try simp only[Act.put,aG,bT]
 refine tk 4 ?_
 try simp only[Act.put,aG,bT]
 refine wpAnyH_ready (rs:=[5]) (by kernel_rfl) (by simp) ?_
 refine AllReadyH.cons (o:=_) rfl (fun K hK=>?_) AllReadyH.nil
 go_simp
 (first|((go_at_call 96);(refine (gq _).mono ?_);rintro e Wn ⟨g,b1,b2,b3,b4,b5,rfl,hF,hgr⟩;have F5:Hid (Grew W2 Wn):=hide (Grew.trans gw hgr);obtain⟨s,q0,q1,q2,q3,q4⟩:=hF.k5';clear hF hgr q0 q1 q2 q3;dsimp only)|skip)
 refine hK.out _ _ ?_ (fun hHeld=>?_)
 ·exact (dK.up pJ.out gw).1
 clear hK K
 try simp only[Act.put,aG,bT]
 refine tk 6 ?_
 try simp only[Act.put,aG,bT]
 refine wpAnyH_done (by kernel_rfl) ?_ _
 go_wp2_with fail
 refine fC ?_
 intro W4 hW
 have qK:Hid (Grew W0 W4):=hide (by rw[<-hW];exact jE.out.trans (HG2.out.trans gw))
 have HO4:Hid (W4.ownsRow W0.heap.size 65 9 (.slice A1 fs.length c1) fs.length (fs.flatMap FV.cells)):=hide (by rw[<-hW];exact aI HOW.out (HG2.out.trans gw))
 obtain⟨gk,hgk⟩:∃g:Nat,∀b,A1=some ⟨b,0,none⟩->b=g:=⟨A1.elim 0 Addr.block,fun b e=>by rw[e];rfl⟩
 have Ul:=hide hgk
 have hA1:fs.length≠0->A1=some ⟨gk,0,none⟩/\W0.heap.size<=gk:=fun h0=>by
  rcases HOW.out.2 with⟨h',h1⟩|⟨g',cap',cur,h',hb',_⟩
  ·omega
  ·simp only[Value.slice.injEq] at h'
   have:=Ul.out g' h'.1
   subst this
   exact⟨h'.1,hb'⟩
 have HA1:=hide hA1
 clear hW q4 hgk hA1 hB2 hHeld
 go_loopw [35] (fun i wr=>∃ (m:Nat) (cur:List FV),m<=fs.length/\i=.int .i64 m/\cur.length=fs.length/\Grew W0 wr/\wr.ownsRow W0.heap.size 65 9 (.slice A1 fs.length c1) fs.length (cur.flatMap FV.cells)/\Hid (∀j,j<fs.length->Hw wr gk (bF cur j))/\Hid (∀j,j<fs.length->(bF cur j).bare=(if j<m then Cm 5 k n (bF fs j) else bF fs j).bare)) (fun i _=>fs.length-(intOf i).toNat)
 case atStart=>exact⟨0,fs,by omega,rfl,rfl,qK.out,HO4.out,hide (fun j hj=>Hw.of ((HR.out.each _ (dQ hj)).grew (lN.out.trans qK.out) (Nat.le_refl _) lN.out.below.size) qK.out.below.size (HA1.out (by omega)).2),hide (fun j hj=>by rw[if_neg (by omega)])⟩
 case round =>
  obtain⟨m,cur,hmm,rfl,hcl,hg,hown,HS,QN⟩:=hrel
  have HG:=hide hg
  have HO:=hide hown
  by_cases hlt:m<fs.length
  ·obtain⟨rfl,SE⟩:=HA1.out (by omega)
   have hown3:=hown
   rw[<-hcl] at hown3
   have Ui:=hide hown3
   obtain⟨fc,hfz⟩:=vP hown3 rfl (k:=m) (by omega)
   obtain⟨lg1,Uf⟩:=hown.lt gk rfl
   have hbr:=QN.out m hlt
   rw[if_neg (by omega)] at hbr
   have HBM:=hide hbr
   have hkd:=Bq hbr
   have d1:=fc.c1
   rw[hkd] at d1
   obtain⟨⟨r0,r1,r2⟩,lR⟩:=Ad.out.up hg
   have hix:=aO (cap:=c1) (k:=m) (len:=fs.length) Tryz.underlying23 Tryz.sizeOf65 (A:=some ⟨gk,0,none⟩) rfl hlt
   rw[Nat.zero_add] at hix
   have hdp:=Ah (fB HV.out _ (dQ hlt))
   rw[<-E5 hbr] at hdp
   have kc:Hid (∀X,Grew wr X->Calls Tryz.prog 128 #[.pointer (some ⟨gk,m*9,none⟩),.int .i64 n] X (Uc W0 X W0.heap.size gk c1 cur m (fQ 5 n (bF cur m)))):=hide (fun X hx=>ae3 n cur W0.heap.size gk c1 m W0 X (aI Ui.out hx) (by omega) (Nat.le_refl _) (HG.out.trans hx) ((HS.out m hlt).gb (hx.grownBy _)))
   clear fc hg hown hown3 hbr hdp
   by_cases hk:(bF fs m).kind=k
   ·have HK:=hide hk
    rw[hk] at d1 hkd
    clear hk hkd
    go_wp2_with fail
    refine ay 8 [] [] hm (h:=?_)
    repeat (refine ax (fun K hK=>?_);go_simp;refine hK _ ?_;clear hK K)
    refine lU fun nq osq=>?_
    try simp only[Act.put,aG]
    try dsimp only
    go_wp2_with fail
    refine ay 6 [] [] hm (h:=?_)
    repeat (refine ax (fun K hK=>?_);go_simp;refine hK _ ?_;clear hK K)
    refine lU fun nqb abO=>?_
    try simp only[Act.put,aG]
    try dsimp only
    go_wp2_with fail
    refine (kc.out _ gw).mono ?_
    rintro e w' ⟨rfl,f',hown',hgb,hba,hst',hg'⟩
    have HO':=hide hown'
    have HST:=hide hst'
    have HG':=hide hg'
    have HBA:=hide hba
    have X3:Hid (wr.grownBy w' (some gk)):=hide (sW (Grew.grownBy gw _) hgb)
    clear hown' hgb hst' hg' hba
    dsimp only
    go_wp2_with fail
    go_roundw
    case rel =>
     refine⟨m+1,cur.set m f',by omega,by go_num,by rw[List.length_set];exact hcl,HG'.out.trans gw,by have:=aI HO'.out (w':=_) gw;rw[hcl] at this;exact this,hide (fun j hj=>?_),hide (fun j hj=>?_)⟩
     ·rw[xB (by omega)]
      split
      ·exact HST.out.gb (Grew.grownBy gw _)
      ·exact ((HS.out j hj).gb X3.out).gb (Grew.grownBy gw _)
     ·rw[xB (by omega)]
      split
      ·rename_i e
       subst e
       rw[HBA.out,if_pos (by omega)]
       unfold Cm
       rw[if_pos HK.out]
       exact rE HBM.out
      ·rw[QN.out j hj]
       by_cases h5:j<m
       ·rw[if_pos h5,if_pos (by omega)]
       ·rw[if_neg h5,if_neg (by omega)]
    case measure=>simp[intOf];omega
   ·have HK:=hide hk
    have hk2:((bF fs m).kind==k)=false:=by simpa using hk
    generalize (bF fs m).kind=kd at d1 hk2 hkd hk
    go_wp2_with fail
    refine ay 8 [] [] hm (h:=?_)
    repeat (refine ax (fun K hK=>?_);go_simp;refine hK _ ?_;clear hK K)
    refine lU fun nq osq=>?_
    try simp only[Act.put,aG]
    try dsimp only
    go_wp2_with fail
    go_roundw
    case rel =>
     refine⟨m+1,cur,by omega,by go_num,hcl,HG.out.trans gw,aI HO.out gw,hide (fun j hj=>(HS.out j hj).gb (Grew.grownBy gw _)),hide (fun j hj=>?_)⟩
     rw[QN.out j hj]
     by_cases h5:j<m
     ·rw[if_pos h5,if_pos (by omega)]
     ·rw[if_neg h5]
      by_cases h6:j=m
      ·subst h6
       rw[if_pos (by omega)]
       unfold Cm
       rw[if_neg HK.out]
      ·rw[if_neg (by omega)]
    case measure=>simp[intOf];omega
  ·obtain rfl:m=fs.length:=by omega
   have hmb:cur.map FV.bare=(jg 5 k n fs).map FV.bare:=by
    unfold jg
    rw[if_neg (by omega),List.map_map]
    exact NU hcl fun j hj=>by
     rw[QN.out j hj,if_pos hj]
     rfl
   have hfl:=tJ hmb
   obtain⟨A9,c9,he9,_,KR⟩:=Rd.iE fZ hown hcl.symm
   obtain⟨rfl,rfl⟩:A1=A9/\c1=c9:=by injection he9 with h1 h2 h3;exact⟨h1,h3⟩
   have MR:Hid (nI wr wr.heap.size A1 cur):=hide ⟨KR,fun f hf=>by
    obtain⟨j,hj,e⟩:=List.getElem_of_mem hf
    have:=(HS.out j (by omega)).rd
    have a:=dI hj
    rw[List.getElem?_eq_getElem hj,e] at a
    injection a with a
    rw[a]
    exact this⟩
   obtain⟨r,hr⟩:∃r,bQ cur=r:=⟨_,rfl⟩
   have k3:=hide (fun W (hg:Grew wr W)=>iO cur A1 c1 r W (MR.out.up hg) (by omega) hr)
   rw[hcl] at k3
   have hap:bP 5 k n fs=if r=true then (jg 5 k n fs,0) else ([],3):=by
    unfold bP
    rw[HU.out,HV.out,if_pos (by rfl),<-hfl,hr]
   have Hu:=hide hap
   have HMB:=hide hmb
   clear hr hap hmb hfl hg hown KR he9
   cases r
   ·go_wp2_with (go_at_call 37;with_reducible refine aQ (k3.out _ gw) fun _ _=>?_;dsimp only)
    go_ret2
    rw[Hu.out,if_neg (by simp)]
    exact⟨none,0,[],rfl,rfl,nI.nil _ _ _,lN.out.trans (HG.out.trans gw)⟩
   ·go_wp2_with (go_at_call 37;with_reducible refine aQ (k3.out _ gw) fun _ _=>?_;dsimp only)
    go_ret2
    rw[Hu.out,if_pos (by trivial)]
    exact⟨A1,c1,cur,by rw[hcl];rfl,HMB.out,MR.out.up gw,lN.out.trans (HG.out.trans gw)⟩
end Go.Proofs.YtlkgjmnjhifehaaGreat
