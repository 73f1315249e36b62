import Derived.Test.YtblgdlnmabkpoaaGreatFeE
import Derived.Test.YtblgdlnmabkpoaaGreatRuY
/- The reference's comparisons at equal lists: places, sectors, features; lists of features that lie in a block. -/
set_option linter.unusedSimpArgs false
set_option linter.unusedVariables false
set_option maxHeartbeats 4000000
set_option maxRecDepth 100000
namespace Go.Proofs.YtblgdlnmabkpoaaGreat
open Go.RowKit Go.Sort
attribute [local go_sem] Steady steadyUpon
attribute [local go_sem ↓] hs_dr lt_add_r lt_add_r2 lt_add_r3 lt_add_r4 lt_add_r5 lt_add_r6
attribute [local go_sem] cell?_gd frozen?_gd setCell_gd size_grow tape_grow cell?_grow' frozen?_grow' setCell_grow' grow_grow grow_dr grow_drew dr_dr dr_drew drew_dr dr_alloc dr_setCell dr_cell dr_frozen dr_tape dr_drawn
attribute [local irreducible] wpSteady
theorem ptSame_t (a:List Pt)(A B:Option Addr)(c c':Nat)(w:World)(hra:Rd w w.heap.size 2 A (a.map encD))(hrb:Rd w w.heap.size 2 B (a.map encD))(hl:a.length≤100000000000000) :
  Calls Tryz.prog 57 #[.slice A a.length c,.slice B a.length c'] w (Ret w (.bool true)):=by
 have hm:=hmix
 have HRA:=hide hra
 have HRB:=hide hrb
 clear hra hrb
 go_enter Tryz.func57,Tryz.ntmps57
 go_wp2_with fail
 go_loopw [5] (fun i wr=>∃k:Nat,k≤a.length∧i=.int .i64 k∧Grew w wr) (fun i _=>a.length-(intOf i).toNat)
 case atStart=>exact⟨0,by omega,rfl,gw⟩
 case round =>
  obtain⟨k,hk,rfl,hg⟩:=hrel
  have HG:=hide hg
  clear hg
  by_cases hlt:k<a.length
  ·obtain⟨p,hp⟩:∃p,a[k]?=some p:=⟨_,List.getElem?_eq_getElem hlt⟩
   obtain⟨x,off,hA,hb,h0,h1⟩:=ptAt (HRA.out.up HG.out) hp
   obtain⟨x',off',hA',hb',h2,h3⟩:=ptAt (HRB.out.up HG.out) hp
   have hix:=idx_run (cap:=c) Tryz.underlying51 Tryz.sizeOf26 hA.out hlt
   have hix2:=idx_run (cap:=c') Tryz.underlying51 Tryz.sizeOf26 hA'.out hlt
   clear hp hA hA'
   obtain⟨p1,p2⟩:=p;dsimp only at h0 h1 h2 h3
   go_wp2_with fail
   refine wp_region_qas 9 [] [] hm (h:=?_)
   repeat (refine wpSteady_step (fun K hK=>?_);go_simp;refine hK _ ?_;clear hK K)
   refine rq0 fun nq osq=>?_
   try simp only[Act.put,setA]
   try dsimp only
   go_wp2_with fail
   go_roundw
   case rel=>exact⟨k+1,by omega,by go_num,HG.out.trans gw⟩
   case measure=>simp[intOf];omega
  ·obtain rfl:k=a.length:=by omega
   go_wp2_with fail
   go_ret
   exact Ret.mk' rfl (HG.out.trans gw)
theorem scSame_t (a:List Sec)(A B:Option Addr)(c c':Nat)(w:World)(hra:Rd w w.heap.size 6 A (a.map Sec.cells))(hrb:Rd w w.heap.size 6 B (a.map Sec.cells))(hl:a.length≤100000000000000) :
  Calls Tryz.prog 58 #[.slice A a.length c,.slice B a.length c'] w (Ret w (.bool true)):=by
 have hm:=hmix
 have HRA:=hide hra
 have HRB:=hide hrb
 clear hra hrb
 go_enter Tryz.func58,Tryz.ntmps58
 go_wp2_with fail
 go_loopw [5] (fun i wr=>∃k:Nat,k≤a.length∧i=.int .i64 k∧Grew w wr) (fun i _=>a.length-(intOf i).toNat)
 case atStart=>exact⟨0,by omega,rfl,gw⟩
 case round =>
  obtain⟨k,hk,rfl,hg⟩:=hrel
  have HG:=hide hg
  clear hg
  by_cases hlt:k<a.length
  ·obtain⟨p,hp⟩:∃p,a[k]?=some p:=⟨_,List.getElem?_eq_getElem hlt⟩
   obtain⟨x,off,hA,hb,h0,h1,h2,h3,h4,h5⟩:=secAt (HRA.out.up HG.out) hp
   obtain⟨x',off',hA',hb',g0,g1,g2,g3,g4,g5⟩:=secAt (HRB.out.up HG.out) hp
   have hix:=idx_run (cap:=c) Tryz.underlying52 Tryz.sizeOf108 hA.out hlt
   have hix2:=idx_run (cap:=c') Tryz.underlying52 Tryz.sizeOf108 hA'.out hlt
   clear hp hA hA'
   skip
   go_wp2_with fail
   refine wp_region_qas 9 [] [] hm (h:=?_)
   repeat (refine wpSteady_step (fun K hK=>?_);go_simp;refine hK _ ?_;clear hK K)
   refine rq0 fun nq osq=>?_
   try simp only[Act.put,setA]
   try dsimp only
   go_wp2_with fail
   go_roundw
   case rel=>exact⟨k+1,by omega,by go_num,HG.out.trans gw⟩
   case measure=>simp[intOf];omega
  ·obtain rfl:k=a.length:=by omega
   go_wp2_with fail
   go_ret
   exact Ret.mk' rfl (HG.out.trans gw)
theorem bare_parts {f g:FV}(h:f.bare=g.bare):g={ f with aA:=g.aA,ac:=g.ac,sA:=g.sA,sc:=g.sc }:=by
 obtain⟨id,kind,x,y,rad,aA,ac,area,dep,sym,sA,sc,secs⟩:=f
 obtain⟨id',kind',x',y',rad',aA',ac',area',dep',sym',sA',sc',secs'⟩:=g
 simp only[FV.bare,FV.mk.injEq] at h
 obtain⟨rfl,rfl,rfl,rfl,rfl,_,_,rfl,rfl,rfl,_,_,rfl⟩:=h
 rfl
theorem feSame_t (f g:FV)(w:World)(hf:f.rd w w.heap.size)(hg:g.rd w w.heap.size)(hb:f.bare=g.bare) :
  Calls Tryz.prog 29 #[f.val,g.val] w (Ret w (.bool true)):=by
 have hm:=hmix
 have hp:=bare_parts hb
 obtain⟨aA',hA⟩:∃A,g.aA=A:=⟨_,rfl⟩
 obtain⟨ac',hc⟩:∃A,g.ac=A:=⟨_,rfl⟩
 obtain⟨sA',hA2⟩:∃A,g.sA=A:=⟨_,rfl⟩
 obtain⟨sc',hc2⟩:∃A,g.sc=A:=⟨_,rfl⟩
 rw[hA,hc,hA2,hc2] at hp
 subst hp
 clear hA hc hA2 hc2 hb
 obtain⟨id,kind,x,y,rad,aA,ac,area,dep,sym,sA,sc,secs⟩:=f
 have k1:=hide (fun W (hg2:Grew w W)=>ptSame_t area aA aA' ac ac' W (hf.area.up hg2) (hg.area.up hg2) hf.la)
 have k2:=hide (fun W (hg2:Grew w W)=>scSame_t secs sA sA' sc sc' W (hf.secs.up hg2) (hg.secs.up hg2) hf.ls)
 clear hf hg
 unfold FV.val
 dsimp only
 generalize area.length=na at *
 generalize secs.length=ns at *
 go_enter Tryz.func29,Tryz.ntmps29
 go_wp2_with (first|(go_at_call 57;with_reducible refine crv (k1.out _ gw) fun _ _=>?_;dsimp only)|(go_at_call 58;with_reducible refine crv (k2.out _ gw) fun _ _=>?_;dsimp only))
 go_ret
 exact Ret.mk' rfl gw
theorem bare_at {fs gs:List FV}(h:fs.map FV.bare=gs.map FV.bare)(k:Nat):(fAt fs k).bare=(fAt gs k).bare:=by
 have e:∀l:List FV,(fAt l k).bare=(l.map FV.bare).getD k default:=fun l=>by
  unfold fAt
  rw[List.getD_eq_getElem?_getD,List.getD_eq_getElem?_getD,List.getElem?_map]
  cases l[k]?<;>rfl
 rw[e,e,h]
theorem liSame_t (fs gs:List FV)(n:Nat)(A B:Option Addr)(c c':Nat)(w:World)(hn:gs.length=n)(hf:FRd w w.heap.size A fs)(hg:FRd w w.heap.size B gs)(hb:fs.map FV.bare=gs.map FV.bare)(hl:fs.length≤100000000000000) :
  Calls Tryz.prog 8 #[.slice A fs.length c,.slice B n c'] w (Ret w (.bool true)):=by
 have hm:=hmix
 have hlen:fs.length=gs.length:=by simpa using congrArg List.length hb
 obtain rfl:n=fs.length:=by omega
 have HB:=hide hb
 have HF:=hide hf
 have HG0:=hide hg
 have HL:=hide hlen
 clear hf hg hb hn hlen
 go_enter Tryz.func8,Tryz.ntmps8
 go_wp2_with fail
 go_loopw [5] (fun i wr=>∃k:Nat,k≤fs.length∧i=.int .i64 k∧Grew w wr) (fun i _=>fs.length-(intOf i).toNat)
 case atStart=>exact⟨0,by omega,rfl,gw⟩
 case round =>
  obtain⟨k,hk,rfl,hg⟩:=hrel
  have HG:=hide hg
  clear hg
  by_cases hlt:k<fs.length
  ·have hlt2:k<gs.length:=by have:=HL.out;omega
   obtain⟨x,off,hA,hb,fc⟩:=rowAt (HF.out.row.up HG.out) hlt
   obtain⟨x',off',hA',hb',fc'⟩:=rowAt (HG0.out.row.up HG.out) hlt2
   have hix:=idx_run (cap:=c) Tryz.underlying22 Tryz.sizeOf54 hA.out hlt
   have hix2:=idx_run (cap:=c') (len:=fs.length) Tryz.underlying22 Tryz.sizeOf54 hA'.out hlt
   have kf:=hide (fun W (hg:Grew w W)=>feSame_t (fAt fs k) (fAt gs k) W ((HF.out.each _ (fAt_mem hlt)).up hg) ((HG0.out.each _ (fAt_mem hlt2)).up hg) (bare_at HB.out k))
   generalize fAt fs k=f at *
   generalize fAt gs k=g at *
   obtain⟨c0,c1,c2,c3,c4,c5,c6,c7,c8⟩:=fc
   obtain⟨e0,e1,e2,e3,e4,e5,e6,e7,e8⟩:=fc'
   clear hA hA' hlt2
   go_wp2_with fail
   refine wp_region_qas 10 [] [] hm (h:=?_)
   repeat (refine wpSteady_step (fun K hK=>?_);go_simp;first|(refine hK _ ?_;clear hK K)|(apply Exists.intro;refine⟨fun _=>?_,hK _ ?_⟩;(go_at_call 29;with_reducible exact kf.out _ (HG.out.trans gw));clear hK K))
   refine rq0 fun nq osq=>?_
   try simp only[Act.put,setA]
   try dsimp only
   go_wp2_with fail
   go_roundw
   case rel=>exact⟨k+1,by omega,by go_num,HG.out.trans gw⟩
   case measure=>simp[intOf];omega
  ·obtain rfl:k=fs.length:=by omega
   go_wp2_with fail
   go_ret
   exact Ret.mk' rfl (HG.out.trans gw)
theorem rd_empty {w:World}{B:Nat}{f:FV}(h1:f.area=[])(h2:f.secs=[]):f.rd w B:=by
 refine⟨?_,?_,?_,?_,?_⟩
 ·rw[h1];exact Rd.nil _ _ _ _
 ·rw[h2];exact Rd.nil _ _ _ _
 ·rw[h1];simp
 ·rw[h2];simp
 ·rw[h2];simp
theorem Rd.blkA {α:Type}{encA:α→List Value}{m:Nat}(hm:∀a,(encA a).length=m){W:World}{b:Nat}{cs:Array Value}{T:TypeId}(ss:List α)(h:W.heap[b]?=some (.cells cs T (0,0)))(hc:cs.toList=ss.flatMap encA):Rd W W.heap.size m (some ⟨b,0,none⟩) (ss.map encA):=by
 refine .inr ⟨b,0,rfl,blk_lt h,fun k x hx j u hu=>?_⟩
 rw[List.getElem?_map] at hx
 obtain⟨s,hs,rfl⟩:=Option.map_eq_some_iff.1 hx
 have hj:j<m:=by rw[←hm s];exact (List.getElem?_eq_some_iff.1 hu).1
 rw[Nat.zero_add,blk_cell h,←Array.getElem?_toList,hc]
 exact (flatMap_get encA m hm ss k j u hj).2 ⟨s,hs,hu⟩
theorem frd_blk {W:World}{b:Nat}{cs:Array Value}{T:TypeId}(fs:List FV)(h:W.heap[b]?=some (.cells cs T (0,0)))(hc:cs.toList=fs.flatMap FV.cells)(hr:∀f∈fs,f.area=[]∧f.secs=[]):FRd W W.heap.size (some ⟨b,0,none⟩) fs :=
 ⟨Rd.blkA fv_len fs h hc,fun f hf=>rd_empty (hr f hf).1 (hr f hf).2⟩
/-- A part of a list of features. -/
theorem frd_part {W:World}{B g off:Nat}{fs:List FV}(h:FRd W B (some ⟨g,off,none⟩) fs)(k n:Nat):FRd W B (some ⟨g,off+k*9,none⟩) ((fs.drop k).take n):=by
 refine⟨?_,fun f hf=>h.each f (List.mem_of_mem_drop (List.mem_of_mem_take hf))⟩
 rcases h.row with h0|⟨b,o,hA,hb,hc⟩
 ·have:fs=[]:=by simpa using h0
  subst this
  exact .inl (by simp)
 ·injection hA with hA
  injection hA with h1 h2
  subst h1 h2
  refine .inr ⟨_,_,rfl,hb,fun i x hx j v hv=>?_⟩
  rw[List.getElem?_map,List.getElem?_take] at hx
  split at hx
  ·rw[List.getElem?_drop] at hx
   have:=hc (k+i) x (by rw[List.getElem?_map];exact hx) j v hv
   rw[show off+(k+i)*9+j=off+k*9+i*9+j by omega] at this
   exact this
  ·simp at hx
set_option maxHeartbeats 2000000
set_option maxRecDepth 100000
theorem prSame_t (a:List Pt)(A B:Option Addr)(c c':Nat)(w:World)(hra:Rd w w.heap.size 2 A (a.map encD))(hrb:Rd w w.heap.size 2 B (a.map encD))(hl:a.length≤100000000000000) :
  Calls Tryz.prog 9 #[.slice A a.length c,.slice B a.length c'] w (Ret w (.bool true)):=by
 have hm:=hmix
 have HRA:=hide hra
 have HRB:=hide hrb
 clear hra hrb
 go_enter Tryz.func9,Tryz.ntmps9
 go_wp2_with fail
 go_loopw [5] (fun i wr=>∃k:Nat,k≤a.length∧i=.int .i64 k∧Grew w wr) (fun i _=>a.length-(intOf i).toNat)
 case atStart=>exact⟨0,by omega,rfl,gw⟩
 case round =>
  obtain⟨k,hk,rfl,hg⟩:=hrel
  have HG:=hide hg
  clear hg
  by_cases hlt:k<a.length
  ·obtain⟨p,hp⟩:∃p,a[k]?=some p:=⟨_,List.getElem?_eq_getElem hlt⟩
   obtain⟨x,off,hA,hb,h0,h1⟩:=ptAt (HRA.out.up HG.out) hp
   obtain⟨x',off',hA',hb',h2,h3⟩:=ptAt (HRB.out.up HG.out) hp
   have hix:=idx_run (cap:=c) Tryz.underlying24 Tryz.sizeOf50 hA.out hlt
   have hix2:=idx_run (cap:=c') Tryz.underlying24 Tryz.sizeOf50 hA'.out hlt
   clear hp hA hA'
   obtain⟨p1,p2⟩:=p;dsimp only at h0 h1 h2 h3
   go_wp2_with fail
   refine wp_region_qas 9 [] [] hm (h:=?_)
   repeat (refine wpSteady_step (fun K hK=>?_);go_simp;refine hK _ ?_;clear hK K)
   refine rq0 fun nq osq=>?_
   try simp only[Act.put,setA]
   try dsimp only
   go_wp2_with fail
   go_roundw
   case rel=>exact⟨k+1,by omega,by go_num,HG.out.trans gw⟩
   case measure=>simp[intOf];omega
  ·obtain rfl:k=a.length:=by omega
   go_wp2_with fail
   go_ret
   exact Ret.mk' rfl (HG.out.trans gw)
theorem inSame_t (a:List Int)(A B:Option Addr)(c c':Nat)(w:World)(hra:Rd w w.heap.size 1 A (a.map encN))(hrb:Rd w w.heap.size 1 B (a.map encN))(hl:a.length≤100000000000000) :
  Calls Tryz.prog 14 #[.slice A a.length c,.slice B a.length c'] w (Ret w (.bool true)):=by
 have hm:=hmix
 have HRA:=hide hra
 have HRB:=hide hrb
 clear hra hrb
 go_enter Tryz.func14,Tryz.ntmps14
 go_wp2_with fail
 go_loopw [5] (fun i wr=>∃k:Nat,k≤a.length∧i=.int .i64 k∧Grew w wr) (fun i _=>a.length-(intOf i).toNat)
 case atStart=>exact⟨0,by omega,rfl,gw⟩
 case round =>
  obtain⟨k,hk,rfl,hg⟩:=hrel
  have HG:=hide hg
  clear hg
  by_cases hlt:k<a.length
  ·obtain⟨p,hp⟩:∃p,a[k]?=some p:=⟨_,List.getElem?_eq_getElem hlt⟩
   obtain⟨x,off,hA,hb,h0⟩:=intAt (HRA.out.up HG.out) hp
   obtain⟨x',off',hA',hb',h2⟩:=intAt (HRB.out.up HG.out) hp
   have hix:=idx_run (cap:=c) Tryz.underlying36 Tryz.sizeOf3 hA.out hlt
   have hix2:=idx_run (cap:=c') Tryz.underlying36 Tryz.sizeOf3 hA'.out hlt
   clear hp hA hA'
   skip
   go_wp2_with fail
   refine wp_region_qas 9 [] [] hm (h:=?_)
   repeat (refine wpSteady_step (fun K hK=>?_);go_simp;refine hK _ ?_;clear hK K)
   refine rq0 fun nq osq=>?_
   try simp only[Act.put,setA]
   try dsimp only
   go_wp2_with fail
   go_roundw
   case rel=>exact⟨k+1,by omega,by go_num,HG.out.trans gw⟩
   case measure=>simp[intOf];omega
  ·obtain rfl:k=a.length:=by omega
   go_wp2_with fail
   go_ret
   exact Ret.mk' rfl (HG.out.trans gw)
end Go.Proofs.YtblgdlnmabkpoaaGreat

