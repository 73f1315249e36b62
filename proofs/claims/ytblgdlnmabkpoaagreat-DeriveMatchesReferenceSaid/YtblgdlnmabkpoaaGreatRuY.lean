import Derived.Test.YtblgdlnmabkpoaaGreatRuF
import Derived.Test.YtblgdlnmabkpoaaGreatPov
/- Package rule: what a rule changes in a feature. Package rule: what Apply hands back, in plain words; a wrong call. Package rule: Apply with rules of one kind. -/
set_option linter.unusedSimpArgs false
set_option linter.unusedVariables false
set_option maxHeartbeats 8000000
set_option maxRecDepth 100000
namespace Go.Proofs.YtblgdlnmabkpoaaGreat
open Go.RowKit Go.Sort Go.Lib
attribute [local go_sem] Steady steadyUpon
attribute [local go_sem ↓] hs_dr lt_add_r lt_add_r2 lt_add_r3 lt_add_r4 lt_add_r5 lt_add_r6
attribute [local go_sem] cell?_gd frozen?_gd setCell_gd size_grow tape_grow cell?_grow' frozen?_grow' setCell_grow' grow_grow grow_dr grow_drew dr_dr dr_drew drew_dr dr_alloc dr_setCell dr_cell dr_frozen dr_tape dr_drawn
attribute [local irreducible] wpSteady
/-- A feature without the places of its lists. -/
def FV.bare (f:FV):FV:={ f with aA:=none,ac:=0,sA:=none,sc:=0 }
def changeF (o n:Int)(f:FV):FV:=if o=2 then { f with dep:=f.dep-f.dep%n } else if o=4 then { f with rad:=max f.rad n } else if o=5 then { f with area:=(rectOf (boxOf f.area).1).1,aA:=none,ac:=0 } else f
/-- A feature's lists can be read, whatever is written in block g. -/
def FSt (w:World)(g:Nat)(f:FV):Prop:=∀w',w.grownBy w' (some g)→f.rd w' w'.heap.size
theorem gb_trans {w w1 w2:World}{r:Option Nat}(h:w.grownBy w1 r)(k:w1.grownBy w2 r):w.grownBy w2 r :=
 ⟨k.os.trans h.os,k.tape.trans h.tape,k.output.trans h.output,Nat.le_trans h.size k.size,fun b hb hne=>(k.block b (Nat.lt_of_lt_of_le hb h.size) hne).trans (h.block b hb hne)⟩
theorem FSt.gb {w w1:World}{g:Nat}{f:FV}(h:FSt w g f)(hg:w.grownBy w1 (some g)):FSt w1 g f:=fun w' k=>h w' (gb_trans hg k)
theorem gb_below2 {w w':World}{g B:Nat}(h:w.grownBy w' (some g))(hB:B≤w.heap.size)(hg:B≤g):Below B w w' :=
 ⟨h.os,h.tape,h.output,by have:=h.size;omega,fun k hk=>h.block k (by omega) (by intro e;injection e with e;omega)⟩
theorem FSt.of {w:World}{B g:Nat}{f:FV}(h:f.rd w B)(hB:B≤w.heap.size)(hg:B≤g):FSt w g f:=fun w' k=>by
 have hb:=gb_below2 k hB hg
 exact⟨(h.area.below hb).mono (by have:=k.size;omega),(h.secs.below hb).mono (by have:=k.size;omega),h.la,h.ls,h.lc⟩
theorem FSt.rd {w:World}{g:Nat}{f:FV}(h:FSt w g f):f.rd w w.heap.size:=h w ((Grew.refl w).grownBy _)
def ChgP (W0 W:World)(base g cap:Nat)(cur:List FV)(i:Nat)(t:FV)(e:Ending)(w':World):Prop:=e=.returned (.tuple #[])∧∃f',w'.ownsRow base 54 9 (.slice (some ⟨g,0,none⟩) cur.length cap) cur.length ((cur.set i f').flatMap FV.cells)∧W.grownBy w' (some g)∧f'.bare=t.bare∧FSt w' g f'∧Grew W0 w'
theorem FSt.same {w:World}{g:Nat}{f f':FV}(h:FSt w g f)(e1:f'.area=f.area)(e2:f'.aA=f.aA)(e3:f'.secs=f.secs)(e4:f'.sA=f.sA)(e5:f'.sc=f.sc):FSt w g f':=fun w' k=>by
 have:=h w' k
 exact⟨by rw[e1,e2];exact this.area,by rw[e3,e4];exact this.secs,by rw[e1];exact this.la,by rw[e3];exact this.ls,by rw[e3,e5];exact this.lc⟩
theorem round_v (n:Int)(cur:List FV)(base g cap i:Nat)(W0 W:World)(hown:W.ownsRow base 54 9 (.slice (some ⟨g,0,none⟩) cur.length cap) cur.length (cur.flatMap FV.cells))(hi:i<cur.length)(hb:W0.heap.size≤base)(hg:Grew W0 W)(hs:FSt W g (fAt cur i))(hn:1≤n∧n≤1000)(hd:0≤(fAt cur i).dep∧(fAt cur i).dep≤100000) :
  Calls Tryz.prog 105 #[.pointer (some ⟨g,i*9,none⟩),.int .i64 n] W (ChgP W0 W base g cap cur i (changeF 2 n (fAt cur i))):=by
 have hm:=hmix
 obtain⟨fc,hf⟩:=ownAt hown rfl hi
 obtain⟨lg1,lg2⟩:=hown.lt g rfl
 have d6:=fc.c6
 have hown2:=fun (x:Int)=>dep_own hown hi x
 have hgg:W0.heap.size≤g:=by omega
 have hs2:=fun (x:Int)=>(hs.gb (gbf_set (v:=.int .i64 x) (o:=i*9+6) ((Grew.refl W).grownBy (some g)))).same (f':={ fAt cur i with dep:=x }) rfl rfl rfl rfl rfl
 have HOW:=hide hown2
 have HS:=hide hs2
 have HG:=hide hg
 have hn0:¬ n=0:=by omega
 obtain⟨d,hdd⟩:∃d,(fAt cur i).dep=d:=⟨_,rfl⟩
 have HD:=hide hdd
 rw[hdd] at d6 hd
 have htm:=Int.tmod_eq_emod_of_nonneg (a:=d) (b:=n) hd.1
 have hmb:=Int.emod_nonneg d hn0
 have hmb2:=Int.emod_lt_of_pos d (show 0<n by omega)
 clear hown hs fc hown2 hs2 hg hdd
 have hch:({ fAt cur i with dep:=d-d%n }:FV).bare=(changeF 2 n (fAt cur i)).bare:=by
  unfold changeF
  rw[if_pos rfl,HD.out]
 have HC:=hide hch
 obtain⟨m,hm2⟩:∃m,d%n=m:=⟨_,rfl⟩
 rw[hm2] at htm hmb hmb2 HC
 have hw:IntKind.i64.wrap (d-m)=d-m:=by unfold IntKind.wrap;simp[IntKind.bits,IntKind.signed];omega
 clear hch
 go_enter Tryz.func105,Tryz.ntmps105
 go_wp2_with fail
 refine wp_region_qas 11 [] [] hm (h:=?_)
 repeat (refine wpSteady_step (fun K hK=>?_);go_simp;refine hK _ ?_;clear hK K)
 refine rq0 fun nq osq=>?_
 try simp only[Act.put,setA]
 try dsimp only
 go_wp2_with fail
 go_end0
 exact⟨rfl,{ fAt cur i with dep:=d-m },fown_grew (HOW.out _) gw,gbf_grew (gbf_set ((Grew.refl W).grownBy _)) gw,HC.out,(HS.out _).gb (Grew.grownBy gw _),(gset HG.out hgg).trans gw⟩
theorem grow_v (n:Int)(cur:List FV)(base g cap i:Nat)(W0 W:World)(hown:W.ownsRow base 54 9 (.slice (some ⟨g,0,none⟩) cur.length cap) cur.length (cur.flatMap FV.cells))(hi:i<cur.length)(hb:W0.heap.size≤base)(hg:Grew W0 W)(hs:FSt W g (fAt cur i)) :
  Calls Tryz.prog 106 #[.pointer (some ⟨g,i*9,none⟩),.int .i64 n] W (ChgP W0 W base g cap cur i (changeF 4 n (fAt cur i))):=by
 have hm:=hmix
 obtain⟨fc,hf⟩:=ownAt hown rfl hi
 obtain⟨lg1,lg2⟩:=hown.lt g rfl
 have d4:=fc.c4
 have hown2:=fun (x:Int)=>rad_own hown hi x
 have hgg:W0.heap.size≤g:=by omega
 have hs2:=fun (x:Int)=>(hs.gb (gbf_set (v:=.int .i64 x) (o:=i*9+4) ((Grew.refl W).grownBy (some g)))).same (f':={ fAt cur i with rad:=x }) rfl rfl rfl rfl rfl
 have HOW:=hide hown2
 have HS:=hide hs2
 have HG:=hide hg
 obtain⟨d,hdd⟩:∃d,(fAt cur i).rad=d:=⟨_,rfl⟩
 have HD:=hide hdd
 rw[hdd] at d4
 have hch:({ fAt cur i with rad:=max d n }:FV).bare=(changeF 4 n (fAt cur i)).bare:=by
  unfold changeF
  rw[if_neg (by omega),if_pos rfl,HD.out]
 have HC:=hide hch
 clear hown hs fc hown2 hs2 hg hdd hch
 go_enter Tryz.func106,Tryz.ntmps106
 go_wp2_with fail
 go_end0
 exact⟨rfl,{ fAt cur i with rad:=max d n },HOW.out _,gbf_set ((Grew.refl W).grownBy _),HC.out,HS.out _,gset HG.out hgg⟩
theorem area_flat (A:Option Addr)(c:Nat)(rs:List Pt):∀ (l:List FV) (i:Nat),i<l.length→(l.flatMap FV.cells).set (i*9+5) (.slice A rs.length c)=(l.set i { fAt l i with aA:=A,ac:=c,area:=rs }).flatMap FV.cells
 | [],i,h=>by simp at h
 | a::l,0,_=>by simp[FV.cells,fAt]
 | a::l,i+1,h=>by
  have ih:=area_flat A c rs l i (by simpa using h)
  have e:fAt (a::l) (i+1)=fAt l i:=by unfold fAt;rw[List.getD_cons_succ]
  rw[e,List.set_cons_succ,List.flatMap_cons,List.flatMap_cons,←ih]
  rw[show (i+1)*9+5=(i*9+5)+1+1+1+1+1+1+1+1+1 by omega]
  simp[FV.cells]
theorem area_own {w:World}{base g n cap i:Nat}{fs:List FV}(h:w.ownsRow base 54 9 (.slice (some ⟨g,0,none⟩) n cap) n (fs.flatMap FV.cells))(hi:i<fs.length)(A:Option Addr)(c:Nat)(rs:List Pt):(w.setCell ⟨g,i*9+5,none⟩ (.slice A rs.length c)).ownsRow base 54 9 (.slice (some ⟨g,0,none⟩) n cap) n ((fs.set i { fAt fs i with aA:=A,ac:=c,area:=rs }).flatMap FV.cells):=by
 rw[←area_flat A c rs fs i hi]
 exact (h.stored _ _).1
theorem rect_len (b:B4):(rectOf b).1.length≤4:=by
 unfold rectOf
 split
 ·split<;>simp[rectC]
 ·simp
theorem box_v (n:Int)(cur:List FV)(base g cap i:Nat)(W0 W:World)(hown:W.ownsRow base 54 9 (.slice (some ⟨g,0,none⟩) cur.length cap) cur.length (cur.flatMap FV.cells))(hi:i<cur.length)(hb:W0.heap.size≤base)(hg:Grew W0 W)(hs:FSt W g (fAt cur i)) :
  Calls Tryz.prog 107 #[.pointer (some ⟨g,i*9,none⟩),.int .i64 n] W (ChgP W0 W base g cap cur i (changeF 5 n (fAt cur i))):=by
 have hm:=hmix
 obtain⟨fc,hf⟩:=ownAt hown rfl hi
 obtain⟨lg1,lg2⟩:=hown.lt g rfl
 have d5:=fc.c5
 have hrd:=hs.rd
 have kb:=hide (fun X (hg:Grew W X)=>Box_any (fAt cur i).area (fAt cur i).aA (fAt cur i).ac X (hrd.area.up hg) hrd.la)
 have kr:=hide (fun X=>Rect_any (boxOf (fAt cur i).area).1 X)
 have hgg:W0.heap.size≤g:=by omega
 have HG:=hide hg
 have HO:=hide hown
 have HS:=hide hs
 have hch:∀A c,({ fAt cur i with aA:=A,ac:=c,area:=(rectOf (boxOf (fAt cur i).area).1).1 }:FV).bare=(changeF 5 n (fAt cur i)).bare:=fun A c=>by
  unfold changeF
  rw[if_neg (by omega),if_neg (by omega),if_pos rfl]
  rfl
 have HC:=hide hch
 have hrl:=rect_len (boxOf (fAt cur i).area).1
 clear hown hs hg fc hrd hch
 go_enter Tryz.func107,Tryz.ntmps107
 go_wp2_with (go_at_call 150;with_reducible refine crv (kb.out _ gw) fun _ _=>?_;dsimp only)
 refine (kr.out _).mono ?_
 rintro e W1 ⟨v,rfl,hown,hg1⟩
 have HG1:Hid (Grew W W1):=hide (Grew.trans gw hg1)
 have hown3:=own_mono hown (base':=W.heap.size) (Grew.below (w:=W) gw).size
 obtain⟨A',c',rfl,hc',hrd'⟩:=Rd.of_own encD_len hown3 rfl
 have HO3:=hide hown3
 have e1:=(HG1.out.below.cell (p:=⟨g,i*9+5,none⟩) lg2).trans d5
 have e2:=(HG1.out.below.frozen (p:=⟨g,i*9+5,none⟩) lg2).trans (hf _)
 have e3:g<W1.heap.size:=Nat.lt_of_lt_of_le lg2 HG1.out.below.size
 clear hown hg1 hown3 hrd' kb
 dsimp only
 generalize (rectOf (boxOf (fAt cur i).area).1).2=er at *
 generalize (rectOf (boxOf (fAt cur i).area).1).1=rs at *
 go_wp2_with fail
 go_end0
 refine⟨rfl,{ fAt cur i with aA:=A',ac:=c',area:=rs },area_own (fown_grew HO.out HG1.out) hi A' c' rs,gbf_set (HG1.out.grownBy _),HC.out A' c',fun w2 k2=>?_,gset (HG.out.trans HG1.out) hgg⟩
 have k3:W1.grownBy w2 (some g):=gb_trans (gbf_set ((Grew.refl W1).grownBy _)) k2
 have hk:=HO3.out.kept k3 (.inr (by
  intro e
  have:=HO3.out.lt g e
  omega))
 obtain⟨A2,c2,he,_,hr2⟩:=Rd.of_own (f:=encD) encD_len hk rfl
 have hA:A'=A2:=by injection he
 have hold:=HS.out w2 (gb_trans (HG1.out.grownBy _) k3)
 exact⟨by rw[hA];exact hr2,hold.secs,by show rs.length≤_;omega,hold.ls,hold.lc⟩
def chg (o k n:Int)(f:FV):FV:=if f.kind=k then changeF o n f else f
def applyL (o k n:Int)(fs:List FV):List FV:=(if o=3 then thinOf k n fs else fs).map (chg o k n)
def applyOf (o k n:Int)(fs:List FV):List FV×Int:=if (ruleOk o k n&&FList fs)=true then (if FList (applyL o k n fs)=true then (applyL o k n fs,0) else ([],3)) else ([],1)
theorem chg_none {o k n:Int}(h:o=1∨o=3)(fs:List FV):fs.map (chg o k n)=fs:=by
 have:chg o k n=id:=by
  funext f
  unfold chg changeF
  rw[if_neg (show ¬ o=2 by omega),if_neg (show ¬ o=4 by omega),if_neg (show ¬ o=5 by omega)]
  split<;>rfl
 rw[this,List.map_id]
theorem fAt_map {fs:List FV}{k:Nat}(h:k<fs.length)(g:FV→FV):fAt (fs.map g) k=g (fAt fs k):=by
 have:=fAt_get h
 unfold fAt
 rw[List.getD_eq_getElem?_getD,List.getElem?_map,this]
 rfl
theorem upTo_bare (fs:List FV):∀k,k≤fs.length→upTo (fs.map FV.bare) k=upTo fs k
 | 0,_=>rfl
 | k+1,h=>by
  have ih:=upTo_bare fs k (by omega)
  unfold upTo at ih ⊢
  rw[List.range_succ,List.all_append,List.all_append,ih]
  congr 1
  simp only[List.all_cons,List.all_nil,Bool.and_true]
  unfold upOk lastId
  rw[fAt_map (by omega)]
  by_cases h0:k=0
  ·subst h0
   rfl
  ·rw[if_neg h0,if_neg h0,fAt_map (by omega)]
   rfl
theorem FList_bare (fs:List FV):FList (fs.map FV.bare)=FList fs:=by
 unfold FList
 rw[List.length_map,upTo_bare fs _ (Nat.le_refl _)]
theorem FList_of {fs gs:List FV}(h:fs.map FV.bare=gs.map FV.bare):FList fs=FList gs:=by rw[←FList_bare fs,h,FList_bare gs]
theorem len_of {fs gs:List FV}(h:fs.map FV.bare=gs.map FV.bare):fs.length=gs.length:=by simpa using congrArg List.length h
/-- What a function hands back that makes lists of features. -/
def FeatR (w:World)(r:List FV×Int)(e:Ending)(w':World):Prop:=∃A' c' fs',e=.returned (.tuple #[.slice A' fs'.length c',.int .i64 r.2])∧fs'.map FV.bare=r.1.map FV.bare∧FRd w' w'.heap.size A' fs'∧Grew w w'
theorem Apply_bad (o k n:Int)(fs:List FV)(A:Option Addr)(c:Nat)(w:World)(hr:FRd w w.heap.size A fs)(hc:fs.length≤100000000000000)(h:¬ (ruleOk o k n&&FList fs)=true) :
  Calls Tryz.prog 51 #[ruV o k n,.slice A fs.length c] w (FeatR w ([],1)):=by
 have hm:=hmix
 obtain⟨u,hu⟩:∃u,ruleOk o k n=u:=⟨_,rfl⟩
 obtain⟨v,hv⟩:∃u,FList fs=u:=⟨_,rfl⟩
 have k1:=hide (fun W=>isRule_v o k n u W hu)
 have k2:=hide (fun W (hg:Grew w W)=>FList_v fs A c v W (hr.up hg) hc hv)
 rw[hu,hv] at h
 clear hu hv hr
 have hcase:u=false∨(u=true∧v=false):=by cases u<;>cases v<;>simp at h ⊢
 rcases hcase with rfl|⟨rfl,rfl⟩
 all_goals
  clear h
  go_enter Tryz.func51,Tryz.ntmps51
  go_wp2_with (first|(go_at_call 68;with_reducible refine crv (k1.out _) fun _ _=>?_;dsimp only)|(go_at_call 41;with_reducible refine crv (k2.out _ gw) fun _ _=>?_;dsimp only))
  go_ret2
  exact⟨none,0,[],rfl,rfl,FRd.nil _ _ _,gw⟩
theorem fneq_nil (W:World):(binOp .neq 100 .nilFunc .nilFunc).run Tryz.prog W=.ok (.bool false) W:=by kernel_rfl
theorem fneq_fn (n:Nat)(W:World):(binOp .neq 100 (.func (.func n) #[] #[]) .nilFunc).run Tryz.prog W=.ok (.bool true) W:=by kernel_rfl
theorem change_bare {o n:Int}{f g:FV}(h:f.bare=g.bare):(changeF o n f).bare=(changeF o n g).bare:=by
 have e:∀f:FV,(changeF o n f).bare=(changeF o n f.bare).bare:=fun f=>by
  unfold changeF
  split
  ·rfl
  ·split
   ·rfl
   ·split<;>rfl
 rw[e f,h,←e g]
theorem bare_kind {f g:FV}(h:f.bare=g.bare):f.kind=g.kind:=by
 have:=congrArg FV.kind h
 exact this
theorem bare_dep {f g:FV}(h:f.bare=g.bare):f.dep=g.dep:=by
 have:=congrArg FV.dep h
 exact this
theorem valid_dep {f:FV}(h:FValid f=true):0≤f.dep∧f.dep≤100000:=by
 unfold FValid baseOk at h
 rw[Bool.and_eq_true,decide_eq_true_eq] at h
 exact h.1.2.2.1
theorem fAt_set {fs:List FV}{i j:Nat}{f:FV}(h:i<fs.length):fAt (fs.set i f) j=if j=i then f else fAt fs j:=by
 unfold fAt
 rw[List.getD_eq_getElem?_getD,List.getD_eq_getElem?_getD]
 by_cases e:j=i
 ·subst e
  rw[List.getElem?_set_self h,if_pos rfl]
  rfl
 ·rw[List.getElem?_set_ne (fun x=>e x.symm),if_neg e]
theorem map_of {fs gs:List FV}{g h:FV→FV}(hl:fs.length=gs.length)(hp:∀j,j<gs.length→g (fAt fs j)=h (fAt gs j)):fs.map g=gs.map h:=by
 apply List.ext_getElem?
 intro j
 rw[List.getElem?_map,List.getElem?_map]
 by_cases hj:j<gs.length
 ·rw[fAt_get hj,fAt_get (by omega)]
  exact congrArg some (hp j hj)
 ·rw[List.getElem?_eq_none (by omega),List.getElem?_eq_none (by omega)]
  rfl
attribute [local go_sem] fneq_nil fneq_fn
theorem Apply_1 (k n:Int)(fs:List FV)(A:Option Addr)(c:Nat)(w:World)(hr:FRd w w.heap.size A fs)(hu:ruleOk 1 k n=true)(hv:FList fs=true) :
  Calls Tryz.prog 51 #[ruV 1 k n,.slice A fs.length c] w (FeatR w (applyOf 1 k n fs)):=by
 have hm:=hmix
 have hlen:=list_len hv
 have k1:=hide (fun W=>isRule_v 1 k n true W hu)
 have k2:=hide (fun W (hg:Grew w W)=>FList_v fs A c true W (hr.up hg) (by omega) hv)
 have HR:=hide hr
 have HV:=hide hv
 have HU:=hide hu
 clear hu hv hr
 go_enter Tryz.func51,Tryz.ntmps51
 go_wp2_with (first|(go_at_call 68;with_reducible refine crv (k1.out _) fun _ _=>?_;dsimp only)|(go_at_call 41;with_reducible refine crv (k2.out _ gw) fun _ _=>?_;dsimp only))
 refine (CloneF_any fs A c _ (HR.out.row.up gw) (by omega)).mono ?_
 rintro e W1 ⟨v1,rfl,hown,hg⟩
 have HBX:Hid (RuBox W1 w.heap.size 1 k n):=hide (RuBox.up (RuBox.new w 1 k n) (Grew.trans gw hg))
 have HG1:Hid (Grew w W1):=hide (Grew.trans gw hg)
 obtain⟨A1,c1,rfl,hc1,hrd1⟩:=Rd.of_own fv_len hown rfl
 have HO1:=hide hown
 have HRD1:=hide hrd1
 have hB1:=HBX.out.2
 have hB0:=HBX.out.1
 clear hown hg hrd1 k1 k2
 dsimp only
 go_wp2_with fail
 refine wp_name ?_
 intro W2 hW
 have HG2:Hid (Grew W1 W2):=hide (by rw[←hW];exact gw)
 have HBX2:=hide (HBX.out.up (HG2.out))
 have hB2:=HBX2.out.2
 clear hW hB0 hB1
 refine wp_region_held_drew (S:=(fun w'=>w'.cell? ⟨w.heap.size,0,none⟩=some (.int .i64 1)∧w'.cell? ⟨w.heap.size,1,none⟩=some (.int .i64 k)∧w'.cell? ⟨w.heap.size,2,none⟩=some (.int .i64 n))) hm ?_ (fun hHeld=>?_)
 ·exact (RuBox.up HBX2.out gw).1
 refine tk 1 ?_
 try simp only[Act.put,setA,getA]
 refine tk 2 ?_
 try simp only[Act.put,setA,getA]
 refine wpAnyH_ready (rs:=[0]) (by kernel_rfl) (by simp) ?_
 refine AllReadyH.cons (o:=_) rfl (fun K hK=>?_) AllReadyH.nil
 go_simp
 (first|((go_at_call 71);(refine (forms_v _).mono ?_);rintro e Wn ⟨g,b1,b2,b3,b4,b5,rfl,hF,hgr⟩;have HGn:Hid (Grew W2 Wn):=hide (Grew.trans gw hgr);obtain⟨s,q0,q1,q2,q3,q4⟩:=hF.k1';clear hF hgr q0 q1 q2 q3;dsimp only)|skip)
 refine hK.out _ _ ?_ (fun hHeld=>?_)
 ·exact (RuBox.up HBX2.out gw).1
 clear hK K
 try simp only[Act.put,setA,getA]
 refine tk 3 ?_
 try simp only[Act.put,setA,getA]
 refine tk 4 ?_
 try simp only[Act.put,setA,getA]
 refine wpAnyH_ready (rs:=[5]) (by kernel_rfl) (by simp) ?_
 refine AllReadyH.cons (o:=_) rfl (fun K hK=>?_) AllReadyH.nil
 go_simp
 (first|((go_at_call 71);(refine (forms_v _).mono ?_);rintro e Wn ⟨g,b1,b2,b3,b4,b5,rfl,hF,hgr⟩;have HGn:Hid (Grew W2 Wn):=hide (Grew.trans gw hgr);obtain⟨s,q0,q1,q2,q3,q4⟩:=hF.k1';clear hF hgr q0 q1 q2 q3;dsimp only)|skip)
 refine hK.out _ _ ?_ (fun hHeld=>?_)
 ·exact (RuBox.up HBX2.out gw).1
 clear hK K
 try simp only[Act.put,setA,getA]
 refine tk 6 ?_
 try simp only[Act.put,setA,getA]
 refine wpAnyH_done (by kernel_rfl) ?_ _
 have HF1:=hide (⟨HRD1.out.up HG2.out,fun f hf=>(HR.out.each f hf).up (HG1.out.trans HG2.out)⟩:FRd W2 W2.heap.size A1 fs)
 have HGG:=hide (HG1.out.trans HG2.out)
 go_wp2_with fail
 obtain⟨r,hr⟩:∃r,FList fs=r:=⟨_,rfl⟩
 have k3:=hide (fun W (hg:Grew W2 W)=>FList_v fs A1 c1 r W (HF1.out.up hg) (by omega) hr)
 have hap:applyOf 1 k n fs=if r=true then (fs,0) else ([],3):=by
  unfold applyOf
  rw[HU.out,HV.out,if_pos (by rfl)]
  have e:applyL 1 k n fs=fs:=by
   unfold applyL
   rw[chg_none (by omega)]
   rfl
  rw[e,hr]
 have HAP:=hide hap
 clear hr hap
 cases r
 ·go_wp2_with (go_at_call 41;with_reducible refine crv (k3.out _ gw) fun _ _=>?_;dsimp only)
  go_ret2
  rw[HAP.out,if_neg (by simp)]
  exact⟨none,0,[],rfl,rfl,FRd.nil _ _ _,HGG.out.trans gw⟩
 ·go_wp2_with (go_at_call 41;with_reducible refine crv (k3.out _ gw) fun _ _=>?_;dsimp only)
  go_ret2
  rw[HAP.out,if_pos (by trivial)]
  exact⟨A1,c1,fs,rfl,rfl,HF1.out.up gw,HGG.out.trans gw⟩
set_option maxHeartbeats 8000000
set_option maxRecDepth 100000
theorem Apply_2 (k n:Int)(fs:List FV)(A:Option Addr)(c:Nat)(w:World)(hr:FRd w w.heap.size A fs)(hu:ruleOk 2 k n=true)(hv:FList fs=true) :
  Calls Tryz.prog 51 #[ruV 2 k n,.slice A fs.length c] w (FeatR w (applyOf 2 k n fs)):=by
 have hm:=hmix
 have hlen:=list_len hv
 have k1:=hide (fun W=>isRule_v 2 k n true W hu)
 have k2:=hide (fun W (hg:Grew w W)=>FList_v fs A c true W (hr.up hg) (by omega) hv)
 have hn:1≤n∧n≤1000:=by
  unfold ruleOk at hu
  rw[Bool.and_eq_true,Bool.and_eq_true] at hu
  have:=hu.2.2
  rw[decide_eq_true_eq] at this
  exact this
 have HR:=hide hr
 have HV:=hide hv
 have HU:=hide hu
 clear hu hv hr
 go_enter Tryz.func51,Tryz.ntmps51
 go_wp2_with (first|(go_at_call 68;with_reducible refine crv (k1.out _) fun _ _=>?_;dsimp only)|(go_at_call 41;with_reducible refine crv (k2.out _ gw) fun _ _=>?_;dsimp only))
 refine (CloneF_any fs A c _ (HR.out.row.up gw) (by omega)).mono ?_
 rintro e W1 ⟨v1,rfl,hown,hg⟩
 obtain⟨W0,hW0⟩:∃X,X=w.alloc (.cells #[.int .i64 2,.int .i64 k,.int .i64 n] 48):=⟨_,rfl⟩
 have hs0:W0.heap.size=w.heap.size+1:=by rw[hW0];simp
 have HBX0:Hid (RuBox W0 w.heap.size 2 k n):=hide (by rw[hW0];exact RuBox.new w 2 k n)
 have HG0:Hid (Grew w W0):=hide (by rw[hW0];exact gw)
 have HG1:Hid (Grew W0 W1):=hide (by rw[hW0];exact Grew.trans gw hg)
 have HOW:Hid (W1.ownsRow W0.heap.size 54 9 v1 fs.length (fs.flatMap FV.cells)):=hide (own_mono hown (by rw[hs0];simp[size_grow,hs_dr];try omega))
 obtain⟨A1,c1,rfl,hc1,hrd1⟩:=Rd.of_own fv_len hown rfl
 have hB0:=(HBX0.out.up HG1.out).1
 have hB1:=(HBX0.out.up HG1.out).2
 clear hown hg hrd1 k1 k2 hW0
 dsimp only
 go_wp2_with fail
 refine wp_name ?_
 intro W2 hW
 have HG2:Hid (Grew W1 W2):=hide (by rw[←hW];exact gw)
 have HBX2:=hide (HBX0.out.up (HG1.out.trans HG2.out))
 have hB2:=HBX2.out.2
 clear hW hB0 hB1
 refine wp_region_held_drew (S:=(fun w'=>w'.cell? ⟨w.heap.size,0,none⟩=some (.int .i64 2)∧w'.cell? ⟨w.heap.size,1,none⟩=some (.int .i64 k)∧w'.cell? ⟨w.heap.size,2,none⟩=some (.int .i64 n))) hm ?_ (fun hHeld=>?_)
 ·exact (RuBox.up HBX2.out gw).1
 refine tk 1 ?_
 try simp only[Act.put,setA,getA]
 refine tk 2 ?_
 try simp only[Act.put,setA,getA]
 refine wpAnyH_ready (rs:=[0]) (by kernel_rfl) (by simp) ?_
 refine AllReadyH.cons (o:=_) rfl (fun K hK=>?_) AllReadyH.nil
 go_simp
 (first|((go_at_call 71);(refine (forms_v _).mono ?_);rintro e Wn ⟨g,b1,b2,b3,b4,b5,rfl,hF,hgr⟩;have HGn:Hid (Grew W2 Wn):=hide (Grew.trans gw hgr);obtain⟨s,q0,q1,q2,q3,q4⟩:=hF.k2';clear hF hgr q0 q1 q2 q3;dsimp only)|skip)
 refine hK.out _ _ ?_ (fun hHeld=>?_)
 ·exact (RuBox.up HBX2.out gw).1
 clear hK K
 try simp only[Act.put,setA,getA]
 refine tk 3 ?_
 try simp only[Act.put,setA,getA]
 refine tk 4 ?_
 try simp only[Act.put,setA,getA]
 refine wpAnyH_ready (rs:=[5]) (by kernel_rfl) (by simp) ?_
 refine AllReadyH.cons (o:=_) rfl (fun K hK=>?_) AllReadyH.nil
 go_simp
 (first|((go_at_call 71);(refine (forms_v _).mono ?_);rintro e Wn ⟨g,b1,b2,b3,b4,b5,rfl,hF,hgr⟩;have HGn:Hid (Grew W2 Wn):=hide (Grew.trans gw hgr);obtain⟨s,q0,q1,q2,q3,q4⟩:=hF.k2';clear hF hgr q0 q1 q2 q3;dsimp only)|skip)
 refine hK.out _ _ ?_ (fun hHeld=>?_)
 ·exact (RuBox.up HBX2.out gw).1
 clear hK K
 try simp only[Act.put,setA,getA]
 refine tk 6 ?_
 try simp only[Act.put,setA,getA]
 refine wpAnyH_done (by kernel_rfl) ?_ _
 go_wp2_with fail
 refine wp_name ?_
 intro W4 hW
 have HG4:Hid (Grew W0 W4):=hide (by rw[←hW];exact HG1.out.trans (HG2.out.trans gw))
 have HO4:Hid (W4.ownsRow W0.heap.size 54 9 (.slice A1 fs.length c1) fs.length (fs.flatMap FV.cells)):=hide (by rw[←hW];exact fown_grew HOW.out (HG2.out.trans gw))
 obtain⟨gk,hgk⟩:∃g:Nat,∀b,A1=some ⟨b,0,none⟩→b=g:=⟨A1.elim 0 Addr.block,fun b e=>by rw[e];rfl⟩
 have HGK:=hide hgk
 have hA1:fs.length≠0→A1=some ⟨gk,0,none⟩∧W0.heap.size≤gk:=fun h0=>by
  rcases HOW.out.2 with⟨h',h1⟩|⟨g',cap',cur,h',hb',_⟩
  ·omega
  ·simp only[Value.slice.injEq] at h'
   have:=HGK.out g' h'.1
   subst this
   exact⟨h'.1,hb'⟩
 have HA1:=hide hA1
 clear hW q4 hgk hA1 hB2 hHeld
 go_loopw [35] (fun i wr=>∃ (m:Nat) (cur:List FV),m≤fs.length∧i=.int .i64 m∧cur.length=fs.length∧Grew W0 wr∧wr.ownsRow W0.heap.size 54 9 (.slice A1 fs.length c1) fs.length (cur.flatMap FV.cells)∧Hid (∀j,j<fs.length→FSt wr gk (fAt cur j))∧Hid (∀j,j<fs.length→(fAt cur j).bare=(if j<m then chg 2 k n (fAt fs j) else fAt fs j).bare)) (fun i _=>fs.length-(intOf i).toNat)
 case atStart=>exact⟨0,fs,by omega,rfl,rfl,HG4.out,HO4.out,hide (fun j hj=>FSt.of ((HR.out.each _ (fAt_mem hj)).grew (HG0.out.trans HG4.out) (Nat.le_refl _) HG0.out.below.size) HG4.out.below.size (HA1.out (by omega)).2),hide (fun j hj=>by rw[if_neg (by omega)])⟩
 case round =>
  obtain⟨m,cur,hmm,rfl,hcl,hg,hown,HS,HBR⟩:=hrel
  have HG:=hide hg
  have HO:=hide hown
  by_cases hlt:m<fs.length
  ·obtain⟨rfl,hgk2⟩:=HA1.out (by omega)
   have hown3:=hown
   rw[←hcl] at hown3
   have HO3:=hide hown3
   obtain⟨fc,hfz⟩:=ownAt hown3 rfl (k:=m) (by omega)
   obtain⟨lg1,lg2⟩:=hown.lt gk rfl
   have hbr:=HBR.out m hlt
   rw[if_neg (by omega)] at hbr
   have HBM:=hide hbr
   have hkd:=bare_kind hbr
   have d1:=fc.c1
   rw[hkd] at d1
   obtain⟨⟨r0,r1,r2⟩,lR⟩:=HBX0.out.up hg
   have hix:=idx_run (cap:=c1) (k:=m) (len:=fs.length) Tryz.underlying22 Tryz.sizeOf54 (A:=some ⟨gk,0,none⟩) rfl hlt
   rw[Nat.zero_add] at hix
   have hdp:=valid_dep (list_valid HV.out _ (fAt_mem hlt))
   rw[←bare_dep hbr] at hdp
   have kc:Hid (∀X,Grew wr X→Calls Tryz.prog 105 #[.pointer (some ⟨gk,m*9,none⟩),.int .i64 n] X (ChgP W0 X W0.heap.size gk c1 cur m (changeF 2 n (fAt cur m)))):=hide (fun X hx=>round_v n cur W0.heap.size gk c1 m W0 X (fown_grew HO3.out hx) (by omega) (Nat.le_refl _) (HG.out.trans hx) ((HS.out m hlt).gb (hx.grownBy _)) hn hdp)
   clear fc hg hown hown3 hbr hdp
   by_cases hk:(fAt fs m).kind=k
   ·have HK:=hide hk
    rw[hk] at d1 hkd
    clear hk hkd
    go_wp2_with fail
    refine wp_region_qas 8 [] [] hm (h:=?_)
    repeat (refine wpSteady_step (fun K hK=>?_);go_simp;refine hK _ ?_;clear hK K)
    refine rq0 fun nq osq=>?_
    try simp only[Act.put,setA]
    try dsimp only
    go_wp2_with fail
    refine wp_region_qas 6 [] [] hm (h:=?_)
    repeat (refine wpSteady_step (fun K hK=>?_);go_simp;refine hK _ ?_;clear hK K)
    refine rq0 fun nqb osqb=>?_
    try simp only[Act.put,setA]
    try dsimp only
    go_wp2_with fail
    refine (kc.out _ gw).mono ?_
    rintro e w' ⟨rfl,f',hown',hgb,hba,hst',hg'⟩
    have HO':=hide hown'
    have HST:=hide hst'
    have HG':=hide hg'
    have HBA:=hide hba
    have HGB:Hid (wr.grownBy w' (some gk)):=hide (gb_trans (Grew.grownBy gw _) hgb)
    clear hown' hgb hst' hg' hba
    dsimp only
    go_wp2_with fail
    go_roundw
    case rel =>
     refine⟨m+1,cur.set m f',by omega,by go_num,by rw[List.length_set];exact hcl,HG'.out.trans gw,by have:=fown_grew HO'.out (w':=_) gw;rw[hcl] at this;exact this,hide (fun j hj=>?_),hide (fun j hj=>?_)⟩
     ·rw[fAt_set (by omega)]
      split
      ·exact HST.out.gb (Grew.grownBy gw _)
      ·exact ((HS.out j hj).gb HGB.out).gb (Grew.grownBy gw _)
     ·rw[fAt_set (by omega)]
      split
      ·rename_i e
       subst e
       rw[HBA.out,if_pos (by omega)]
       unfold chg
       rw[if_pos HK.out]
       exact change_bare HBM.out
      ·rw[HBR.out j hj]
       by_cases h5:j<m
       ·rw[if_pos h5,if_pos (by omega)]
       ·rw[if_neg h5,if_neg (by omega)]
    case measure=>simp[intOf];omega
   ·have HK:=hide hk
    have hk2:((fAt fs m).kind==k)=false:=by simpa using hk
    generalize (fAt fs m).kind=kd at d1 hk2 hkd hk
    go_wp2_with fail
    refine wp_region_qas 8 [] [] hm (h:=?_)
    repeat (refine wpSteady_step (fun K hK=>?_);go_simp;refine hK _ ?_;clear hK K)
    refine rq0 fun nq osq=>?_
    try simp only[Act.put,setA]
    try dsimp only
    go_wp2_with fail
    go_roundw
    case rel =>
     refine⟨m+1,cur,by omega,by go_num,hcl,HG.out.trans gw,fown_grew HO.out gw,hide (fun j hj=>(HS.out j hj).gb (Grew.grownBy gw _)),hide (fun j hj=>?_)⟩
     rw[HBR.out j hj]
     by_cases h5:j<m
     ·rw[if_pos h5,if_pos (by omega)]
     ·rw[if_neg h5]
      by_cases h6:j=m
      ·subst h6
       rw[if_pos (by omega)]
       unfold chg
       rw[if_neg HK.out]
      ·rw[if_neg (by omega)]
    case measure=>simp[intOf];omega
  ·obtain rfl:m=fs.length:=by omega
   have hmb:cur.map FV.bare=(applyL 2 k n fs).map FV.bare:=by
    unfold applyL
    rw[if_neg (by omega),List.map_map]
    exact map_of hcl fun j hj=>by
     rw[HBR.out j hj,if_pos hj]
     rfl
   have hfl:=FList_of hmb
   obtain⟨A9,c9,he9,_,hrd9⟩:=Rd.of_own fv_len hown hcl.symm
   obtain⟨rfl,rfl⟩:A1=A9∧c1=c9:=by injection he9 with h1 h2 h3;exact⟨h1,h3⟩
   have HF1:Hid (FRd wr wr.heap.size A1 cur):=hide ⟨hrd9,fun f hf=>by
    obtain⟨j,hj,e⟩:=List.getElem_of_mem hf
    have:=(HS.out j (by omega)).rd
    have a:=fAt_get hj
    rw[List.getElem?_eq_getElem hj,e] at a
    injection a with a
    rw[a]
    exact this⟩
   obtain⟨r,hr⟩:∃r,FList cur=r:=⟨_,rfl⟩
   have k3:=hide (fun W (hg:Grew wr W)=>FList_v cur A1 c1 r W (HF1.out.up hg) (by omega) hr)
   rw[hcl] at k3
   have hap:applyOf 2 k n fs=if r=true then (applyL 2 k n fs,0) else ([],3):=by
    unfold applyOf
    rw[HU.out,HV.out,if_pos (by rfl),←hfl,hr]
   have HAP:=hide hap
   have HMB:=hide hmb
   clear hr hap hmb hfl hg hown hrd9 he9
   cases r
   ·go_wp2_with (go_at_call 41;with_reducible refine crv (k3.out _ gw) fun _ _=>?_;dsimp only)
    go_ret2
    rw[HAP.out,if_neg (by simp)]
    exact⟨none,0,[],rfl,rfl,FRd.nil _ _ _,HG0.out.trans (HG.out.trans gw)⟩
   ·go_wp2_with (go_at_call 41;with_reducible refine crv (k3.out _ gw) fun _ _=>?_;dsimp only)
    go_ret2
    rw[HAP.out,if_pos (by trivial)]
    exact⟨A1,c1,cur,by rw[hcl];rfl,HMB.out,HF1.out.up gw,HG0.out.trans (HG.out.trans gw)⟩
theorem thin_src {k n:Int}{fs:List FV}(hv:FList fs=true):∀g,g∈thinOf k n fs→Src fs g:=by
 intro g hg
 have hg2:=(List.mergeSort_perm _ _).mem_iff.1 hg
 have hds:∀f,f∈discsOf k fs→f∈fs:=fun f hf=>(List.mem_filter.1 ((discs_perm k fs).mem_iff.1 hf)).1
 rcases List.mem_append.1 hg2 with h|h
 ·exact Src.of (List.mem_filter.1 h).1
 ·exact ((kept_all (n:=n) (fun f hf=>valid_rad (list_valid hv f (hds f hf))) _ (Nat.le_refl _) g h).src).mono hds
theorem thin_len (k n:Int)(fs:List FV):(thinOf k n fs).length≤fs.length:=by
 unfold thinOf
 rw[List.length_mergeSort,List.length_append]
 have h1:=kept_len (n:=n) (ds:=discsOf k fs) (Nat.le_refl _)
 have h2:(discsOf k fs).length=(fs.filter (isKind k)).length:=List.length_mergeSort _
 have h3:=(List.filter_append_perm (isKind k) fs).length_eq
 rw[List.length_append] at h3
 unfold othersOf
 omega
/-- As FeatR, and the slice has room for its length. -/
def FeatC (w:World)(r:List FV×Int)(e:Ending)(w':World):Prop:=∃A' c' fs',e=.returned (.tuple #[.slice A' fs'.length c',.int .i64 r.2])∧fs'.map FV.bare=r.1.map FV.bare∧FRd w' w'.heap.size A' fs'∧Grew w w'∧fs'.length≤c'
theorem Apply_3c (k n:Int)(fs:List FV)(A:Option Addr)(c:Nat)(w:World)(hr:FRd w w.heap.size A fs)(hu:ruleOk 3 k n=true)(hv:FList fs=true) :
  Calls Tryz.prog 51 #[ruV 3 k n,.slice A fs.length c] w (FeatC w (applyOf 3 k n fs)):=by
 have hm:=hmix
 have hlen:=list_len hv
 have k1:=hide (fun W=>isRule_v 3 k n true W hu)
 have k2:=hide (fun W (hg:Grew w W)=>FList_v fs A c true W (hr.up hg) (by omega) hv)
 have HR:=hide hr
 have HV:=hide hv
 have HU:=hide hu
 clear hu hv hr
 go_enter Tryz.func51,Tryz.ntmps51
 go_wp2_with (first|(go_at_call 68;with_reducible refine crv (k1.out _) fun _ _=>?_;dsimp only)|(go_at_call 41;with_reducible refine crv (k2.out _ gw) fun _ _=>?_;dsimp only))
 refine (CloneF_any fs A c _ (HR.out.row.up gw) (by omega)).mono ?_
 rintro e W1 ⟨v1,rfl,hown,hg⟩
 have HBX:Hid (RuBox W1 w.heap.size 3 k n):=hide (RuBox.up (RuBox.new w 3 k n) (Grew.trans gw hg))
 have HG1:Hid (Grew w W1):=hide (Grew.trans gw hg)
 obtain⟨A1,c1,rfl,hc1,hrd1⟩:=Rd.of_own fv_len hown rfl
 have HO1:=hide hown
 have HRD1:=hide hrd1
 have hB1:=HBX.out.2
 have hB0:=HBX.out.1
 clear hown hg hrd1 k1 k2
 dsimp only
 go_wp2_with fail
 refine (thin_any 3 k n fs A1 c1 _ (HRD1.out.up gw) HV.out).mono ?_
 rintro e W3 ⟨A3,c3,rfl,hrd,hg,hcap⟩
 have HCAP:=hide hcap
 have HG3:Hid (Grew W1 W3):=hide (Grew.trans gw hg)
 have HRD3:=hide hrd
 have hB0:=(HBX.out.up HG3.out).1
 have hB1:=(HBX.out.up HG3.out).2
 clear hrd hg hcap
 dsimp only
 go_wp2_with fail
 refine wp_name ?_
 intro W2 hW
 have HG2:Hid (Grew W3 W2):=hide (by rw[←hW];exact gw)
 have HBX2:=hide (HBX.out.up (HG3.out.trans HG2.out))
 have hB2:=HBX2.out.2
 clear hW hB0 hB1
 refine wp_region_held_drew (S:=(fun w'=>w'.cell? ⟨w.heap.size,0,none⟩=some (.int .i64 3)∧w'.cell? ⟨w.heap.size,1,none⟩=some (.int .i64 k)∧w'.cell? ⟨w.heap.size,2,none⟩=some (.int .i64 n))) hm ?_ (fun hHeld=>?_)
 ·exact (RuBox.up HBX2.out gw).1
 refine tk 1 ?_
 try simp only[Act.put,setA,getA]
 refine tk 2 ?_
 try simp only[Act.put,setA,getA]
 refine wpAnyH_ready (rs:=[0]) (by kernel_rfl) (by simp) ?_
 refine AllReadyH.cons (o:=_) rfl (fun K hK=>?_) AllReadyH.nil
 go_simp
 (first|((go_at_call 71);(refine (forms_v _).mono ?_);rintro e Wn ⟨g,b1,b2,b3,b4,b5,rfl,hF,hgr⟩;have HGn:Hid (Grew W2 Wn):=hide (Grew.trans gw hgr);obtain⟨s,q0,q1,q2,q3,q4⟩:=hF.k3';clear hF hgr q0 q1 q2 q3;dsimp only)|skip)
 refine hK.out _ _ ?_ (fun hHeld=>?_)
 ·exact (RuBox.up HBX2.out gw).1
 clear hK K
 try simp only[Act.put,setA,getA]
 refine tk 3 ?_
 try simp only[Act.put,setA,getA]
 refine tk 4 ?_
 try simp only[Act.put,setA,getA]
 refine wpAnyH_ready (rs:=[5]) (by kernel_rfl) (by simp) ?_
 refine AllReadyH.cons (o:=_) rfl (fun K hK=>?_) AllReadyH.nil
 go_simp
 (first|((go_at_call 71);(refine (forms_v _).mono ?_);rintro e Wn ⟨g,b1,b2,b3,b4,b5,rfl,hF,hgr⟩;have HGn:Hid (Grew W2 Wn):=hide (Grew.trans gw hgr);obtain⟨s,q0,q1,q2,q3,q4⟩:=hF.k3';clear hF hgr q0 q1 q2 q3;dsimp only)|skip)
 refine hK.out _ _ ?_ (fun hHeld=>?_)
 ·exact (RuBox.up HBX2.out gw).1
 clear hK K
 try simp only[Act.put,setA,getA]
 refine tk 6 ?_
 try simp only[Act.put,setA,getA]
 refine wpAnyH_done (by kernel_rfl) ?_ _
 have HF1:=hide (⟨HRD3.out.up HG2.out,fun f hf=>((thin_src HV.out f hf).rd (fun f hf=>HR.out.each f hf)).up (HG1.out.trans (HG3.out.trans HG2.out))⟩:FRd W2 W2.heap.size A3 (thinOf k n fs))
 have HGG:=hide (HG1.out.trans (HG3.out.trans HG2.out))
 have htl:=thin_len k n fs
 go_wp2_with fail
 obtain⟨r,hr⟩:∃r,FList (thinOf k n fs)=r:=⟨_,rfl⟩
 have k3:=hide (fun W (hg:Grew W2 W)=>FList_v (thinOf k n fs) A3 c3 r W (HF1.out.up hg) (by omega) hr)
 have hap:applyOf 3 k n fs=if r=true then ((thinOf k n fs),0) else ([],3):=by
  unfold applyOf
  rw[HU.out,HV.out,if_pos (by rfl)]
  have e:applyL 3 k n fs=(thinOf k n fs):=by
   unfold applyL
   rw[chg_none (by omega)]
   rfl
  rw[e,hr]
 have HAP:=hide hap
 clear hr hap
 cases r
 ·go_wp2_with (go_at_call 41;with_reducible refine crv (k3.out _ gw) fun _ _=>?_;dsimp only)
  go_ret2
  rw[HAP.out,if_neg (by simp)]
  exact⟨none,0,[],rfl,rfl,FRd.nil _ _ _,HGG.out.trans gw,by simp⟩
 ·go_wp2_with (go_at_call 41;with_reducible refine crv (k3.out _ gw) fun _ _=>?_;dsimp only)
  go_ret2
  rw[HAP.out,if_pos (by trivial)]
  exact⟨A3,c3,(thinOf k n fs),rfl,rfl,HF1.out.up gw,HGG.out.trans gw,HCAP.out⟩
theorem Apply_3 (k n:Int)(fs:List FV)(A:Option Addr)(c:Nat)(w:World)(hr:FRd w w.heap.size A fs)(hu:ruleOk 3 k n=true)(hv:FList fs=true) :
  Calls Tryz.prog 51 #[ruV 3 k n,.slice A fs.length c] w (FeatR w (applyOf 3 k n fs)) :=
 (Apply_3c k n fs A c w hr hu hv).mono fun e w' ⟨A',c',fs',h1,h2,h3,h4,_⟩=>⟨A',c',fs',h1,h2,h3,h4⟩
set_option maxHeartbeats 8000000
set_option maxRecDepth 100000
theorem Apply_4 (k n:Int)(fs:List FV)(A:Option Addr)(c:Nat)(w:World)(hr:FRd w w.heap.size A fs)(hu:ruleOk 4 k n=true)(hv:FList fs=true) :
  Calls Tryz.prog 51 #[ruV 4 k n,.slice A fs.length c] w (FeatR w (applyOf 4 k n fs)):=by
 have hm:=hmix
 have hlen:=list_len hv
 have k1:=hide (fun W=>isRule_v 4 k n true W hu)
 have k2:=hide (fun W (hg:Grew w W)=>FList_v fs A c true W (hr.up hg) (by omega) hv)
 have HR:=hide hr
 have HV:=hide hv
 have HU:=hide hu
 clear hu hv hr
 go_enter Tryz.func51,Tryz.ntmps51
 go_wp2_with (first|(go_at_call 68;with_reducible refine crv (k1.out _) fun _ _=>?_;dsimp only)|(go_at_call 41;with_reducible refine crv (k2.out _ gw) fun _ _=>?_;dsimp only))
 refine (CloneF_any fs A c _ (HR.out.row.up gw) (by omega)).mono ?_
 rintro e W1 ⟨v1,rfl,hown,hg⟩
 obtain⟨W0,hW0⟩:∃X,X=w.alloc (.cells #[.int .i64 4,.int .i64 k,.int .i64 n] 48):=⟨_,rfl⟩
 have hs0:W0.heap.size=w.heap.size+1:=by rw[hW0];simp
 have HBX0:Hid (RuBox W0 w.heap.size 4 k n):=hide (by rw[hW0];exact RuBox.new w 4 k n)
 have HG0:Hid (Grew w W0):=hide (by rw[hW0];exact gw)
 have HG1:Hid (Grew W0 W1):=hide (by rw[hW0];exact Grew.trans gw hg)
 have HOW:Hid (W1.ownsRow W0.heap.size 54 9 v1 fs.length (fs.flatMap FV.cells)):=hide (own_mono hown (by rw[hs0];simp[size_grow,hs_dr];try omega))
 obtain⟨A1,c1,rfl,hc1,hrd1⟩:=Rd.of_own fv_len hown rfl
 have hB0:=(HBX0.out.up HG1.out).1
 have hB1:=(HBX0.out.up HG1.out).2
 clear hown hg hrd1 k1 k2 hW0
 dsimp only
 go_wp2_with fail
 refine wp_name ?_
 intro W2 hW
 have HG2:Hid (Grew W1 W2):=hide (by rw[←hW];exact gw)
 have HBX2:=hide (HBX0.out.up (HG1.out.trans HG2.out))
 have hB2:=HBX2.out.2
 clear hW hB0 hB1
 refine wp_region_held_drew (S:=(fun w'=>w'.cell? ⟨w.heap.size,0,none⟩=some (.int .i64 4)∧w'.cell? ⟨w.heap.size,1,none⟩=some (.int .i64 k)∧w'.cell? ⟨w.heap.size,2,none⟩=some (.int .i64 n))) hm ?_ (fun hHeld=>?_)
 ·exact (RuBox.up HBX2.out gw).1
 refine tk 1 ?_
 try simp only[Act.put,setA,getA]
 refine tk 2 ?_
 try simp only[Act.put,setA,getA]
 refine wpAnyH_ready (rs:=[0]) (by kernel_rfl) (by simp) ?_
 refine AllReadyH.cons (o:=_) rfl (fun K hK=>?_) AllReadyH.nil
 go_simp
 (first|((go_at_call 71);(refine (forms_v _).mono ?_);rintro e Wn ⟨g,b1,b2,b3,b4,b5,rfl,hF,hgr⟩;have HGn:Hid (Grew W2 Wn):=hide (Grew.trans gw hgr);obtain⟨s,q0,q1,q2,q3,q4⟩:=hF.k4';clear hF hgr q0 q1 q2 q3;dsimp only)|skip)
 refine hK.out _ _ ?_ (fun hHeld=>?_)
 ·exact (RuBox.up HBX2.out gw).1
 clear hK K
 try simp only[Act.put,setA,getA]
 refine tk 3 ?_
 try simp only[Act.put,setA,getA]
 refine tk 4 ?_
 try simp only[Act.put,setA,getA]
 refine wpAnyH_ready (rs:=[5]) (by kernel_rfl) (by simp) ?_
 refine AllReadyH.cons (o:=_) rfl (fun K hK=>?_) AllReadyH.nil
 go_simp
 (first|((go_at_call 71);(refine (forms_v _).mono ?_);rintro e Wn ⟨g,b1,b2,b3,b4,b5,rfl,hF,hgr⟩;have HGn:Hid (Grew W2 Wn):=hide (Grew.trans gw hgr);obtain⟨s,q0,q1,q2,q3,q4⟩:=hF.k4';clear hF hgr q0 q1 q2 q3;dsimp only)|skip)
 refine hK.out _ _ ?_ (fun hHeld=>?_)
 ·exact (RuBox.up HBX2.out gw).1
 clear hK K
 try simp only[Act.put,setA,getA]
 refine tk 6 ?_
 try simp only[Act.put,setA,getA]
 refine wpAnyH_done (by kernel_rfl) ?_ _
 go_wp2_with fail
 refine wp_name ?_
 intro W4 hW
 have HG4:Hid (Grew W0 W4):=hide (by rw[←hW];exact HG1.out.trans (HG2.out.trans gw))
 have HO4:Hid (W4.ownsRow W0.heap.size 54 9 (.slice A1 fs.length c1) fs.length (fs.flatMap FV.cells)):=hide (by rw[←hW];exact fown_grew HOW.out (HG2.out.trans gw))
 obtain⟨gk,hgk⟩:∃g:Nat,∀b,A1=some ⟨b,0,none⟩→b=g:=⟨A1.elim 0 Addr.block,fun b e=>by rw[e];rfl⟩
 have HGK:=hide hgk
 have hA1:fs.length≠0→A1=some ⟨gk,0,none⟩∧W0.heap.size≤gk:=fun h0=>by
  rcases HOW.out.2 with⟨h',h1⟩|⟨g',cap',cur,h',hb',_⟩
  ·omega
  ·simp only[Value.slice.injEq] at h'
   have:=HGK.out g' h'.1
   subst this
   exact⟨h'.1,hb'⟩
 have HA1:=hide hA1
 clear hW q4 hgk hA1 hB2 hHeld
 go_loopw [35] (fun i wr=>∃ (m:Nat) (cur:List FV),m≤fs.length∧i=.int .i64 m∧cur.length=fs.length∧Grew W0 wr∧wr.ownsRow W0.heap.size 54 9 (.slice A1 fs.length c1) fs.length (cur.flatMap FV.cells)∧Hid (∀j,j<fs.length→FSt wr gk (fAt cur j))∧Hid (∀j,j<fs.length→(fAt cur j).bare=(if j<m then chg 4 k n (fAt fs j) else fAt fs j).bare)) (fun i _=>fs.length-(intOf i).toNat)
 case atStart=>exact⟨0,fs,by omega,rfl,rfl,HG4.out,HO4.out,hide (fun j hj=>FSt.of ((HR.out.each _ (fAt_mem hj)).grew (HG0.out.trans HG4.out) (Nat.le_refl _) HG0.out.below.size) HG4.out.below.size (HA1.out (by omega)).2),hide (fun j hj=>by rw[if_neg (by omega)])⟩
 case round =>
  obtain⟨m,cur,hmm,rfl,hcl,hg,hown,HS,HBR⟩:=hrel
  have HG:=hide hg
  have HO:=hide hown
  by_cases hlt:m<fs.length
  ·obtain⟨rfl,hgk2⟩:=HA1.out (by omega)
   have hown3:=hown
   rw[←hcl] at hown3
   have HO3:=hide hown3
   obtain⟨fc,hfz⟩:=ownAt hown3 rfl (k:=m) (by omega)
   obtain⟨lg1,lg2⟩:=hown.lt gk rfl
   have hbr:=HBR.out m hlt
   rw[if_neg (by omega)] at hbr
   have HBM:=hide hbr
   have hkd:=bare_kind hbr
   have d1:=fc.c1
   rw[hkd] at d1
   obtain⟨⟨r0,r1,r2⟩,lR⟩:=HBX0.out.up hg
   have hix:=idx_run (cap:=c1) (k:=m) (len:=fs.length) Tryz.underlying22 Tryz.sizeOf54 (A:=some ⟨gk,0,none⟩) rfl hlt
   rw[Nat.zero_add] at hix
   have hdp:=valid_dep (list_valid HV.out _ (fAt_mem hlt))
   rw[←bare_dep hbr] at hdp
   have kc:Hid (∀X,Grew wr X→Calls Tryz.prog 106 #[.pointer (some ⟨gk,m*9,none⟩),.int .i64 n] X (ChgP W0 X W0.heap.size gk c1 cur m (changeF 4 n (fAt cur m)))):=hide (fun X hx=>grow_v n cur W0.heap.size gk c1 m W0 X (fown_grew HO3.out hx) (by omega) (Nat.le_refl _) (HG.out.trans hx) ((HS.out m hlt).gb (hx.grownBy _)))
   clear fc hg hown hown3 hbr hdp
   by_cases hk:(fAt fs m).kind=k
   ·have HK:=hide hk
    rw[hk] at d1 hkd
    clear hk hkd
    go_wp2_with fail
    refine wp_region_qas 8 [] [] hm (h:=?_)
    repeat (refine wpSteady_step (fun K hK=>?_);go_simp;refine hK _ ?_;clear hK K)
    refine rq0 fun nq osq=>?_
    try simp only[Act.put,setA]
    try dsimp only
    go_wp2_with fail
    refine wp_region_qas 6 [] [] hm (h:=?_)
    repeat (refine wpSteady_step (fun K hK=>?_);go_simp;refine hK _ ?_;clear hK K)
    refine rq0 fun nqb osqb=>?_
    try simp only[Act.put,setA]
    try dsimp only
    go_wp2_with fail
    refine (kc.out _ gw).mono ?_
    rintro e w' ⟨rfl,f',hown',hgb,hba,hst',hg'⟩
    have HO':=hide hown'
    have HST:=hide hst'
    have HG':=hide hg'
    have HBA:=hide hba
    have HGB:Hid (wr.grownBy w' (some gk)):=hide (gb_trans (Grew.grownBy gw _) hgb)
    clear hown' hgb hst' hg' hba
    dsimp only
    go_wp2_with fail
    go_roundw
    case rel =>
     refine⟨m+1,cur.set m f',by omega,by go_num,by rw[List.length_set];exact hcl,HG'.out.trans gw,by have:=fown_grew HO'.out (w':=_) gw;rw[hcl] at this;exact this,hide (fun j hj=>?_),hide (fun j hj=>?_)⟩
     ·rw[fAt_set (by omega)]
      split
      ·exact HST.out.gb (Grew.grownBy gw _)
      ·exact ((HS.out j hj).gb HGB.out).gb (Grew.grownBy gw _)
     ·rw[fAt_set (by omega)]
      split
      ·rename_i e
       subst e
       rw[HBA.out,if_pos (by omega)]
       unfold chg
       rw[if_pos HK.out]
       exact change_bare HBM.out
      ·rw[HBR.out j hj]
       by_cases h5:j<m
       ·rw[if_pos h5,if_pos (by omega)]
       ·rw[if_neg h5,if_neg (by omega)]
    case measure=>simp[intOf];omega
   ·have HK:=hide hk
    have hk2:((fAt fs m).kind==k)=false:=by simpa using hk
    generalize (fAt fs m).kind=kd at d1 hk2 hkd hk
    go_wp2_with fail
    refine wp_region_qas 8 [] [] hm (h:=?_)
    repeat (refine wpSteady_step (fun K hK=>?_);go_simp;refine hK _ ?_;clear hK K)
    refine rq0 fun nq osq=>?_
    try simp only[Act.put,setA]
    try dsimp only
    go_wp2_with fail
    go_roundw
    case rel =>
     refine⟨m+1,cur,by omega,by go_num,hcl,HG.out.trans gw,fown_grew HO.out gw,hide (fun j hj=>(HS.out j hj).gb (Grew.grownBy gw _)),hide (fun j hj=>?_)⟩
     rw[HBR.out j hj]
     by_cases h5:j<m
     ·rw[if_pos h5,if_pos (by omega)]
     ·rw[if_neg h5]
      by_cases h6:j=m
      ·subst h6
       rw[if_pos (by omega)]
       unfold chg
       rw[if_neg HK.out]
      ·rw[if_neg (by omega)]
    case measure=>simp[intOf];omega
  ·obtain rfl:m=fs.length:=by omega
   have hmb:cur.map FV.bare=(applyL 4 k n fs).map FV.bare:=by
    unfold applyL
    rw[if_neg (by omega),List.map_map]
    exact map_of hcl fun j hj=>by
     rw[HBR.out j hj,if_pos hj]
     rfl
   have hfl:=FList_of hmb
   obtain⟨A9,c9,he9,_,hrd9⟩:=Rd.of_own fv_len hown hcl.symm
   obtain⟨rfl,rfl⟩:A1=A9∧c1=c9:=by injection he9 with h1 h2 h3;exact⟨h1,h3⟩
   have HF1:Hid (FRd wr wr.heap.size A1 cur):=hide ⟨hrd9,fun f hf=>by
    obtain⟨j,hj,e⟩:=List.getElem_of_mem hf
    have:=(HS.out j (by omega)).rd
    have a:=fAt_get hj
    rw[List.getElem?_eq_getElem hj,e] at a
    injection a with a
    rw[a]
    exact this⟩
   obtain⟨r,hr⟩:∃r,FList cur=r:=⟨_,rfl⟩
   have k3:=hide (fun W (hg:Grew wr W)=>FList_v cur A1 c1 r W (HF1.out.up hg) (by omega) hr)
   rw[hcl] at k3
   have hap:applyOf 4 k n fs=if r=true then (applyL 4 k n fs,0) else ([],3):=by
    unfold applyOf
    rw[HU.out,HV.out,if_pos (by rfl),←hfl,hr]
   have HAP:=hide hap
   have HMB:=hide hmb
   clear hr hap hmb hfl hg hown hrd9 he9
   cases r
   ·go_wp2_with (go_at_call 41;with_reducible refine crv (k3.out _ gw) fun _ _=>?_;dsimp only)
    go_ret2
    rw[HAP.out,if_neg (by simp)]
    exact⟨none,0,[],rfl,rfl,FRd.nil _ _ _,HG0.out.trans (HG.out.trans gw)⟩
   ·go_wp2_with (go_at_call 41;with_reducible refine crv (k3.out _ gw) fun _ _=>?_;dsimp only)
    go_ret2
    rw[HAP.out,if_pos (by trivial)]
    exact⟨A1,c1,cur,by rw[hcl];rfl,HMB.out,HF1.out.up gw,HG0.out.trans (HG.out.trans gw)⟩
theorem Apply_5 (k n:Int)(fs:List FV)(A:Option Addr)(c:Nat)(w:World)(hr:FRd w w.heap.size A fs)(hu:ruleOk 5 k n=true)(hv:FList fs=true) :
  Calls Tryz.prog 51 #[ruV 5 k n,.slice A fs.length c] w (FeatR w (applyOf 5 k n fs)):=by
 have hm:=hmix
 have hlen:=list_len hv
 have k1:=hide (fun W=>isRule_v 5 k n true W hu)
 have k2:=hide (fun W (hg:Grew w W)=>FList_v fs A c true W (hr.up hg) (by omega) hv)
 have HR:=hide hr
 have HV:=hide hv
 have HU:=hide hu
 clear hu hv hr
 go_enter Tryz.func51,Tryz.ntmps51
 go_wp2_with (first|(go_at_call 68;with_reducible refine crv (k1.out _) fun _ _=>?_;dsimp only)|(go_at_call 41;with_reducible refine crv (k2.out _ gw) fun _ _=>?_;dsimp only))
 refine (CloneF_any fs A c _ (HR.out.row.up gw) (by omega)).mono ?_
 rintro e W1 ⟨v1,rfl,hown,hg⟩
 obtain⟨W0,hW0⟩:∃X,X=w.alloc (.cells #[.int .i64 5,.int .i64 k,.int .i64 n] 48):=⟨_,rfl⟩
 have hs0:W0.heap.size=w.heap.size+1:=by rw[hW0];simp
 have HBX0:Hid (RuBox W0 w.heap.size 5 k n):=hide (by rw[hW0];exact RuBox.new w 5 k n)
 have HG0:Hid (Grew w W0):=hide (by rw[hW0];exact gw)
 have HG1:Hid (Grew W0 W1):=hide (by rw[hW0];exact Grew.trans gw hg)
 have HOW:Hid (W1.ownsRow W0.heap.size 54 9 v1 fs.length (fs.flatMap FV.cells)):=hide (own_mono hown (by rw[hs0];simp[size_grow,hs_dr];try omega))
 obtain⟨A1,c1,rfl,hc1,hrd1⟩:=Rd.of_own fv_len hown rfl
 have hB0:=(HBX0.out.up HG1.out).1
 have hB1:=(HBX0.out.up HG1.out).2
 clear hown hg hrd1 k1 k2 hW0
 dsimp only
 go_wp2_with fail
 refine wp_name ?_
 intro W2 hW
 have HG2:Hid (Grew W1 W2):=hide (by rw[←hW];exact gw)
 have HBX2:=hide (HBX0.out.up (HG1.out.trans HG2.out))
 have hB2:=HBX2.out.2
 clear hW hB0 hB1
 refine wp_region_held_drew (S:=(fun w'=>w'.cell? ⟨w.heap.size,0,none⟩=some (.int .i64 5)∧w'.cell? ⟨w.heap.size,1,none⟩=some (.int .i64 k)∧w'.cell? ⟨w.heap.size,2,none⟩=some (.int .i64 n))) hm ?_ (fun hHeld=>?_)
 ·exact (RuBox.up HBX2.out gw).1
 refine tk 1 ?_
 try simp only[Act.put,setA,getA]
 refine tk 2 ?_
 try simp only[Act.put,setA,getA]
 refine wpAnyH_ready (rs:=[0]) (by kernel_rfl) (by simp) ?_
 refine AllReadyH.cons (o:=_) rfl (fun K hK=>?_) AllReadyH.nil
 go_simp
 (first|((go_at_call 71);(refine (forms_v _).mono ?_);rintro e Wn ⟨g,b1,b2,b3,b4,b5,rfl,hF,hgr⟩;have HGn:Hid (Grew W2 Wn):=hide (Grew.trans gw hgr);obtain⟨s,q0,q1,q2,q3,q4⟩:=hF.k5';clear hF hgr q0 q1 q2 q3;dsimp only)|skip)
 refine hK.out _ _ ?_ (fun hHeld=>?_)
 ·exact (RuBox.up HBX2.out gw).1
 clear hK K
 try simp only[Act.put,setA,getA]
 refine tk 3 ?_
 try simp only[Act.put,setA,getA]
 refine tk 4 ?_
 try simp only[Act.put,setA,getA]
 refine wpAnyH_ready (rs:=[5]) (by kernel_rfl) (by simp) ?_
 refine AllReadyH.cons (o:=_) rfl (fun K hK=>?_) AllReadyH.nil
 go_simp
 (first|((go_at_call 71);(refine (forms_v _).mono ?_);rintro e Wn ⟨g,b1,b2,b3,b4,b5,rfl,hF,hgr⟩;have HGn:Hid (Grew W2 Wn):=hide (Grew.trans gw hgr);obtain⟨s,q0,q1,q2,q3,q4⟩:=hF.k5';clear hF hgr q0 q1 q2 q3;dsimp only)|skip)
 refine hK.out _ _ ?_ (fun hHeld=>?_)
 ·exact (RuBox.up HBX2.out gw).1
 clear hK K
 try simp only[Act.put,setA,getA]
 refine tk 6 ?_
 try simp only[Act.put,setA,getA]
 refine wpAnyH_done (by kernel_rfl) ?_ _
 go_wp2_with fail
 refine wp_name ?_
 intro W4 hW
 have HG4:Hid (Grew W0 W4):=hide (by rw[←hW];exact HG1.out.trans (HG2.out.trans gw))
 have HO4:Hid (W4.ownsRow W0.heap.size 54 9 (.slice A1 fs.length c1) fs.length (fs.flatMap FV.cells)):=hide (by rw[←hW];exact fown_grew HOW.out (HG2.out.trans gw))
 obtain⟨gk,hgk⟩:∃g:Nat,∀b,A1=some ⟨b,0,none⟩→b=g:=⟨A1.elim 0 Addr.block,fun b e=>by rw[e];rfl⟩
 have HGK:=hide hgk
 have hA1:fs.length≠0→A1=some ⟨gk,0,none⟩∧W0.heap.size≤gk:=fun h0=>by
  rcases HOW.out.2 with⟨h',h1⟩|⟨g',cap',cur,h',hb',_⟩
  ·omega
  ·simp only[Value.slice.injEq] at h'
   have:=HGK.out g' h'.1
   subst this
   exact⟨h'.1,hb'⟩
 have HA1:=hide hA1
 clear hW q4 hgk hA1 hB2 hHeld
 go_loopw [35] (fun i wr=>∃ (m:Nat) (cur:List FV),m≤fs.length∧i=.int .i64 m∧cur.length=fs.length∧Grew W0 wr∧wr.ownsRow W0.heap.size 54 9 (.slice A1 fs.length c1) fs.length (cur.flatMap FV.cells)∧Hid (∀j,j<fs.length→FSt wr gk (fAt cur j))∧Hid (∀j,j<fs.length→(fAt cur j).bare=(if j<m then chg 5 k n (fAt fs j) else fAt fs j).bare)) (fun i _=>fs.length-(intOf i).toNat)
 case atStart=>exact⟨0,fs,by omega,rfl,rfl,HG4.out,HO4.out,hide (fun j hj=>FSt.of ((HR.out.each _ (fAt_mem hj)).grew (HG0.out.trans HG4.out) (Nat.le_refl _) HG0.out.below.size) HG4.out.below.size (HA1.out (by omega)).2),hide (fun j hj=>by rw[if_neg (by omega)])⟩
 case round =>
  obtain⟨m,cur,hmm,rfl,hcl,hg,hown,HS,HBR⟩:=hrel
  have HG:=hide hg
  have HO:=hide hown
  by_cases hlt:m<fs.length
  ·obtain⟨rfl,hgk2⟩:=HA1.out (by omega)
   have hown3:=hown
   rw[←hcl] at hown3
   have HO3:=hide hown3
   obtain⟨fc,hfz⟩:=ownAt hown3 rfl (k:=m) (by omega)
   obtain⟨lg1,lg2⟩:=hown.lt gk rfl
   have hbr:=HBR.out m hlt
   rw[if_neg (by omega)] at hbr
   have HBM:=hide hbr
   have hkd:=bare_kind hbr
   have d1:=fc.c1
   rw[hkd] at d1
   obtain⟨⟨r0,r1,r2⟩,lR⟩:=HBX0.out.up hg
   have hix:=idx_run (cap:=c1) (k:=m) (len:=fs.length) Tryz.underlying22 Tryz.sizeOf54 (A:=some ⟨gk,0,none⟩) rfl hlt
   rw[Nat.zero_add] at hix
   have hdp:=valid_dep (list_valid HV.out _ (fAt_mem hlt))
   rw[←bare_dep hbr] at hdp
   have kc:Hid (∀X,Grew wr X→Calls Tryz.prog 107 #[.pointer (some ⟨gk,m*9,none⟩),.int .i64 n] X (ChgP W0 X W0.heap.size gk c1 cur m (changeF 5 n (fAt cur m)))):=hide (fun X hx=>box_v n cur W0.heap.size gk c1 m W0 X (fown_grew HO3.out hx) (by omega) (Nat.le_refl _) (HG.out.trans hx) ((HS.out m hlt).gb (hx.grownBy _)))
   clear fc hg hown hown3 hbr hdp
   by_cases hk:(fAt fs m).kind=k
   ·have HK:=hide hk
    rw[hk] at d1 hkd
    clear hk hkd
    go_wp2_with fail
    refine wp_region_qas 8 [] [] hm (h:=?_)
    repeat (refine wpSteady_step (fun K hK=>?_);go_simp;refine hK _ ?_;clear hK K)
    refine rq0 fun nq osq=>?_
    try simp only[Act.put,setA]
    try dsimp only
    go_wp2_with fail
    refine wp_region_qas 6 [] [] hm (h:=?_)
    repeat (refine wpSteady_step (fun K hK=>?_);go_simp;refine hK _ ?_;clear hK K)
    refine rq0 fun nqb osqb=>?_
    try simp only[Act.put,setA]
    try dsimp only
    go_wp2_with fail
    refine (kc.out _ gw).mono ?_
    rintro e w' ⟨rfl,f',hown',hgb,hba,hst',hg'⟩
    have HO':=hide hown'
    have HST:=hide hst'
    have HG':=hide hg'
    have HBA:=hide hba
    have HGB:Hid (wr.grownBy w' (some gk)):=hide (gb_trans (Grew.grownBy gw _) hgb)
    clear hown' hgb hst' hg' hba
    dsimp only
    go_wp2_with fail
    go_roundw
    case rel =>
     refine⟨m+1,cur.set m f',by omega,by go_num,by rw[List.length_set];exact hcl,HG'.out.trans gw,by have:=fown_grew HO'.out (w':=_) gw;rw[hcl] at this;exact this,hide (fun j hj=>?_),hide (fun j hj=>?_)⟩
     ·rw[fAt_set (by omega)]
      split
      ·exact HST.out.gb (Grew.grownBy gw _)
      ·exact ((HS.out j hj).gb HGB.out).gb (Grew.grownBy gw _)
     ·rw[fAt_set (by omega)]
      split
      ·rename_i e
       subst e
       rw[HBA.out,if_pos (by omega)]
       unfold chg
       rw[if_pos HK.out]
       exact change_bare HBM.out
      ·rw[HBR.out j hj]
       by_cases h5:j<m
       ·rw[if_pos h5,if_pos (by omega)]
       ·rw[if_neg h5,if_neg (by omega)]
    case measure=>simp[intOf];omega
   ·have HK:=hide hk
    have hk2:((fAt fs m).kind==k)=false:=by simpa using hk
    generalize (fAt fs m).kind=kd at d1 hk2 hkd hk
    go_wp2_with fail
    refine wp_region_qas 8 [] [] hm (h:=?_)
    repeat (refine wpSteady_step (fun K hK=>?_);go_simp;refine hK _ ?_;clear hK K)
    refine rq0 fun nq osq=>?_
    try simp only[Act.put,setA]
    try dsimp only
    go_wp2_with fail
    go_roundw
    case rel =>
     refine⟨m+1,cur,by omega,by go_num,hcl,HG.out.trans gw,fown_grew HO.out gw,hide (fun j hj=>(HS.out j hj).gb (Grew.grownBy gw _)),hide (fun j hj=>?_)⟩
     rw[HBR.out j hj]
     by_cases h5:j<m
     ·rw[if_pos h5,if_pos (by omega)]
     ·rw[if_neg h5]
      by_cases h6:j=m
      ·subst h6
       rw[if_pos (by omega)]
       unfold chg
       rw[if_neg HK.out]
      ·rw[if_neg (by omega)]
    case measure=>simp[intOf];omega
  ·obtain rfl:m=fs.length:=by omega
   have hmb:cur.map FV.bare=(applyL 5 k n fs).map FV.bare:=by
    unfold applyL
    rw[if_neg (by omega),List.map_map]
    exact map_of hcl fun j hj=>by
     rw[HBR.out j hj,if_pos hj]
     rfl
   have hfl:=FList_of hmb
   obtain⟨A9,c9,he9,_,hrd9⟩:=Rd.of_own fv_len hown hcl.symm
   obtain⟨rfl,rfl⟩:A1=A9∧c1=c9:=by injection he9 with h1 h2 h3;exact⟨h1,h3⟩
   have HF1:Hid (FRd wr wr.heap.size A1 cur):=hide ⟨hrd9,fun f hf=>by
    obtain⟨j,hj,e⟩:=List.getElem_of_mem hf
    have:=(HS.out j (by omega)).rd
    have a:=fAt_get hj
    rw[List.getElem?_eq_getElem hj,e] at a
    injection a with a
    rw[a]
    exact this⟩
   obtain⟨r,hr⟩:∃r,FList cur=r:=⟨_,rfl⟩
   have k3:=hide (fun W (hg:Grew wr W)=>FList_v cur A1 c1 r W (HF1.out.up hg) (by omega) hr)
   rw[hcl] at k3
   have hap:applyOf 5 k n fs=if r=true then (applyL 5 k n fs,0) else ([],3):=by
    unfold applyOf
    rw[HU.out,HV.out,if_pos (by rfl),←hfl,hr]
   have HAP:=hide hap
   have HMB:=hide hmb
   clear hr hap hmb hfl hg hown hrd9 he9
   cases r
   ·go_wp2_with (go_at_call 41;with_reducible refine crv (k3.out _ gw) fun _ _=>?_;dsimp only)
    go_ret2
    rw[HAP.out,if_neg (by simp)]
    exact⟨none,0,[],rfl,rfl,FRd.nil _ _ _,HG0.out.trans (HG.out.trans gw)⟩
   ·go_wp2_with (go_at_call 41;with_reducible refine crv (k3.out _ gw) fun _ _=>?_;dsimp only)
    go_ret2
    rw[HAP.out,if_pos (by trivial)]
    exact⟨A1,c1,cur,by rw[hcl];rfl,HMB.out,HF1.out.up gw,HG0.out.trans (HG.out.trans gw)⟩
end Go.Proofs.YtblgdlnmabkpoaaGreat

