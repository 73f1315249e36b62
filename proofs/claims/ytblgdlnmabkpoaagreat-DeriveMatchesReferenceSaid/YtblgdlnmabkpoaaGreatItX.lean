import Derived.Test.YtblgdlnmabkpoaaGreatProg
import Derived.Test.YtblgdlnmabkpoaaGreatRegIn
import Derived.Test.YtblgdlnmabkpoaaGreatApp
import Derived.RangeFuncNested
import Derived.RangeFuncBound
import Derived.Test.YtblgdlnmabkpoaaGreatSecA
/- What a round of a loop over a function leaves as it was; blocks that lie. -/
set_option linter.unusedSimpArgs false
set_option linter.unusedVariables false
namespace Go.Proofs.YtblgdlnmabkpoaaGreat
open Go.RowKit Go.Sort
attribute [local go_sem] Steady steadyUpon
attribute [local go_sem ↓] hs_dr lt_add_r lt_add_r2 lt_add_r3 lt_add_r4 lt_add_r5 lt_add_r6
attribute [local go_sem] cell?_gd frozen?_gd setCell_gd size_grow tape_grow cell?_grow' frozen?_grow' setCell_grow' grow_grow grow_dr grow_drew dr_dr dr_drew drew_dr dr_alloc dr_setCell dr_cell dr_frozen dr_tape dr_drawn
/-- What a round of a loop over a function leaves as it was: every block of cells but those that the body may write (M). -/
def KpM (M:Nat→TypeId→Prop)(W W':World):Prop:=∀b cs T fr,¬ M b T→W.heap[b]?=some (.cells cs T fr)→W'.heap[b]?=some (.cells cs T fr)
theorem KpM.trans {M:Nat→TypeId→Prop}{A B C:World}(h:KpM M A B)(k:KpM M B C):KpM M A C:=fun b cs T fr hM hb=>k b cs T fr hM (h b cs T fr hM hb)
theorem KpM.bk {M:Nat→TypeId→Prop}{w:World}(W:World)(l:Nat)(o o':Obj)(_:w.heap.size≤l)(h:W.heap[l]?=some o)(ho:o.isCells=false)(_:o.isWalk=false):KpM M W (W.putObj l o'):=by
 intro b cs T fr _ hb
 have hne:b≠l:=by
  rintro rfl
  rw[hb] at h
  injection h with h
  rw[←h] at ho
  simp[Obj.isCells] at ho
 rw[World.putObj_heap_other (fun e=>hne (by omega))]
 exact hb
theorem KpM.grew {M:Nat→TypeId→Prop}{W W':World}(h:Grew W W'):KpM M W W':=fun b cs T fr _ hb=>by
 rw[h.below.block b (blk_lt hb)]
 exact hb
theorem KpM.set {M:Nat→TypeId→Prop}(W:World)(b i:Nat)(v:Value)(h:∀T,M b T):KpM M W (W.setCell ⟨b,i,none⟩ v):=fun k cs T fr hM hb=>by
 by_cases e:k=b
 ·subst e;exact absurd (h T) hM
 ·rw[heap_setCell_other W ⟨b,i,none⟩ k v (fun h=>e h)]
  exact hb
theorem Grew.grownBy {w w':World}(h:Grew w w')(row:Option Nat):w.grownBy w' row:=by
 have hb:=h.below
 exact⟨hb.os,hb.tape,hb.output,hb.size,fun k hk _=>hb.block k hk⟩
/-- The blocks from n0 on are these. -/
def Bx (W:World)(n0:Nat)(os:List Obj):Prop:=∀i o,os[i]?=some o→W.heap[n0+i]?=some o
theorem Bx.own {β:Type}{B n0:Nat}{os:List Obj}(h:n0+os.length≤B):OwnFrom B (fun (_:β) W=>Bx W n0 os):=by
 intro s W W' row hs hg hr i o ho
 have hi:=(List.getElem?_eq_some_iff.1 ho).1
 have h0:=hs i o ho
 rw[hg.block (n0+i) (blk_lt h0) (fun e=>by have:=(hr _ e.symm).1;omega)]
 exact h0
theorem Bx.grew {W W':World}{n0:Nat}{os:List Obj}(h:Bx W n0 os)(hg:Grew W W'):Bx W' n0 os:=fun i o ho=>(hg.below.block _ (blk_lt (h i o ho))).trans (h i o ho)
theorem ownFrom_pure {β:Type}{B:Nat}(p:β→Prop):OwnFrom B (fun (s:β) (_:World)=>p s):=fun _ _ _ _ h _ _=>h
theorem cells_own {X Y:World}{row:Option Nat}{B:Nat}{cs:Array Value}{T:TypeId}{fr:Nat×Nat}(h:X.heap[B]?=some (.cells cs T fr))(hg:X.grownBy Y row)(hr:∀r,row=some r→∃o:Obj,X.heap[r]?=some o∧o.isCells=false):Y.heap[B]?=some (.cells cs T fr) :=
 (grownBy_keeps_cells hg hr h rfl).trans h
theorem asg1 (T:Array Value)(k:Nat)(v:Value):((#[k]:Array Tmp).zip #[v]).foldl (fun t (p,v)=>t.setIfInBounds p v) T=T.setIfInBounds k v:=by simp
theorem asg2 (T:Array Value)(k l:Nat)(v u:Value):((#[k,l]:Array Tmp).zip #[v,u]).foldl (fun t (p,v)=>t.setIfInBounds p v) T=(T.setIfInBounds k v).setIfInBounds l u:=by simp
theorem putObj_cell {W:World}{D b i:Nat}{o:Obj}(h:b≠D):(W.putObj D o).cell? ⟨b,i,none⟩=W.cell? ⟨b,i,none⟩:=World.cell?_of_block (World.putObj_heap_other h)
theorem wpIn_name {F:Fence}{n:Nat}{P:Program}{c:Code}{Q:Exit→Act→World→Prop}{a:Act}{w:World}(h:∀a0 W0,a=a0→w=W0→c.wpIn F n P Q a0 W0):c.wpIn F n P Q a w:=h _ _ rfl rfl
theorem Bx.box {W:World}{n0:Nat}{os:List Obj}(h:Bx W n0 os)(i:Nat){v:Value}{T:TypeId}(ho:os[i]?=some (.cells #[v] T (0,0))):Boxed W (n0+i) T v:=h i _ ho
theorem Bx.allocs:∀ (os:List Obj) (w:World),Bx (os.foldl World.alloc w) w.heap.size os∧Grew w (os.foldl World.alloc w)
 | [],w=>⟨fun i o h=>by simp at h,Grew.refl _⟩
 | o::os,w=>by
  obtain⟨h1,h2⟩:=Bx.allocs os (w.alloc o)
  refine⟨fun i x hx=>?_,Grew.trans (Grew.alloc (Grew.refl _) o) h2⟩
  cases i with
  | zero =>
   injection hx with hx
   subst hx
   exact (h2.below.block w.heap.size (by simp)).trans (heap_alloc_new w o)
  | succ i =>
   have:=h1 i x hx
   rw[World.size_alloc'] at this
   rw[show w.heap.size+(i+1)=w.heap.size+1+i by omega]
   exact this
theorem Grew.keepsFrom {W W':World}(h:Grew W W')(B:Nat):KeepsFrom B W W':=KeepsFrom.of_grownBy (h.grownBy none) (fun _ e=>by cases e)
theorem KeepsFrom.setCell (B:Nat)(W:World)(a:Addr)(v:Value):KeepsFrom B W (W.setCell a v):=(KeepsOthers.setCell W a v).from B
theorem gb_refl (W:World)(row:Option Nat):W.grownBy W row:=⟨rfl,rfl,rfl,Nat.le_refl _,fun _ _ _=>rfl⟩
theorem gb_grew {W V V':World}{row:Option Nat}(h:W.grownBy V row)(g:Grew V V'):W.grownBy V' row :=
 ⟨(g.below.os).trans h.os,g.below.tape.trans h.tape,g.below.output.trans h.output,Nat.le_trans h.size g.below.size,fun k hk hne=>(g.below.block k (Nat.lt_of_lt_of_le hk h.size)).trans (h.block k hk hne)⟩
theorem gb_grow {W V:World}{row:Option Nat}(h:W.grownBy V row)(n:Nat)(os:Array Obj):W.grownBy (Sort.grow (dr V n) os) row:=gb_grew h (Grew.mk V n os)
theorem gb_alloc {W V:World}{row:Option Nat}(h:W.grownBy V row)(o:Obj):W.grownBy (V.alloc o) row:=gb_grew h (Grew.alloc (Grew.refl _) o)
theorem gb_new {W V:World}{row:Option Nat}{k:Nat}(h:W.grownBy V row)(hk:W.heap.size≤k)(i:Nat)(v:Value):W.grownBy (V.setCell ⟨k,i,none⟩ v) row :=
 ⟨h.os,h.tape,h.output,by simpa using h.size,fun j hj hne=>(heap_setCell_other V ⟨k,i,none⟩ j v (fun e=>by dsimp only at e;omega)).trans (h.block j hj hne)⟩
theorem gb_row {W V:World}{b:Nat}(h:W.grownBy V (some b))(i:Nat)(v:Value):W.grownBy (V.setCell ⟨b,i,none⟩ v) (some b) :=
 ⟨h.os,h.tape,h.output,by simpa using h.size,fun j hj hne=>(heap_setCell_other V ⟨b,i,none⟩ j v (fun e=>hne (by dsimp only at e;rw[e]))).trans (h.block j hj hne)⟩
theorem gb_below {w W V:World}{b:Nat}(h:W.grownBy V (some b))(hw:Below w.heap.size w W)(hb:w.heap.size≤b):Below w.heap.size w V:=hw.grown h hw.size fun q hq=>by injection hq with hq;omega
theorem gbw {W V:World}{row:Option Nat}(h:W.grownBy V row:=by repeat (with_reducible first|assumption|exact Hid.out (by assumption)|exact gb_refl _ _|refine gb_grow ?_ _ _|refine gb_row ?_ _ _|(refine gb_new ?_ (Hid.out (by assumption)) _ _)|refine gb_alloc ?_ _|(refine gb_grew ?_ (Hid.out (by assumption))))):W.grownBy V row:=h
theorem gb_keeps {W V:World}{b B:Nat}(h:W.grownBy V (some b))(ho:∃o,W.heap[b]?=some o∧o.isCells=true):KeepsFrom B W V :=
 ⟨h.size,fun k o hk h0 hc=>(h.block k (blk_lt h0) (fun e=>by
  obtain⟨o',h1,h2⟩:=ho
  injection e with e
  subst e
  rw[h0] at h1
  injection h1 with h1
  rw[h1,h2] at hc
  cases hc)).trans h0⟩
theorem gb_kpm {M:Nat→TypeId→Prop}{W V:World}{b:Nat}(h:W.grownBy V (some b))(hM:∀T,M b T):KpM M W V:=fun k cs T fr hk h0=>(h.block k (blk_lt h0) (fun e=>by
  injection e with e
  subst e
  exact hk (hM T))).trans h0
theorem gb_bx {W V:World}{b n0:Nat}{os:List Obj}(h:W.grownBy V (some b))(hb:Bx W n0 os)(hne:b<n0∨n0+os.length≤b):Bx V n0 os:=fun i o ho=>(h.block _ (blk_lt (hb i o ho)) (fun e=>by
  injection e with e
  have:=(List.getElem?_eq_some_iff.1 ho).1
  omega)).trans (hb i o ho)
theorem bxd_grow {V:World}{b:Nat}{T:TypeId}{v:Value}(h:Boxed V b T v)(n:Nat)(os:Array Obj):Boxed (Sort.grow (dr V n) os) b T v:=((Grew.mk V n os).below.block _ (blk_lt h)).trans h
theorem bxd_grew {V V':World}{b:Nat}{T:TypeId}{v:Value}(h:Boxed V b T v)(g:Grew V V'):Boxed V' b T v:=(g.below.block _ (blk_lt h)).trans h
theorem bxd_new {V:World}{b k i:Nat}{T:TypeId}{v u:Value}(h:Boxed V b T v)(hne:b≠k):Boxed (V.setCell ⟨k,i,none⟩ u) b T v:=(heap_setCell_other V ⟨k,i,none⟩ b u hne).trans h
set_option maxHeartbeats 2000000
set_option maxRecDepth 100000
attribute [local go_sem] Oper.semAt_some
def turnsOf (ss:List Sec):List (Int×Int):=ss.flatMap fun s=>[(s.fx,s.fy),(s.tx,s.ty)]
abbrev Dir:={ v:Int×Int // dirOk v.1 v.2=true }
def Dir.enc (v:Dir):Array Value:=#[pt v.1.1 v.1.2]
theorem turns_any (O:Option Addr)(n c:Nat)(w:World) :
  Calls Tryz.prog 155 #[.slice O n c] w fun e w'=>e=.returned (.func (.func 193) #[] #[.pointer (some ⟨w.heap.size,0,none⟩)])∧w.alloc (.cells #[.slice O n c] 211)=w':=by
 go_enter Tryz.func155,Tryz.ntmps155
 go_wp2
 go_ret
 exact⟨rfl,rfl⟩
theorem turns_snoc {ss:List Sec}{k:Nat}{s:Sec}(h:ss[k]?=some s):turnsOf (ss.take (k+1))=turnsOf (ss.take k)++[(s.fx,s.fy),(s.tx,s.ty)]:=by
 unfold turnsOf
 rw[List.take_add_one,h]
 simp
theorem turns_len (ss:List Sec):(turnsOf ss).length=2*ss.length:=by
 unfold turnsOf
 induction ss with
 | nil=>rfl
 | cons s ss ih=>simp[ih];omega
/-- The iterator's contract. B: the box of the slice of lights. -/
theorem turns1_stops (n:Nat)(M:Nat→TypeId→Prop)(LL:List SL)(O:Option Addr)(c B:Nat)(w:World)(hM:∀b T,M b T→b<w.heap.size∨T≠108)(hB:w.heap[B]?=some (.cells #[.slice O LL.length c] 211 (0,0)))
  (hr:Rd w w.heap.size 1 O (LL.map fun x=>[x.val])) (hin:∀x∈LL,Rd w w.heap.size 6 x.A (x.ss.map Sec.cells)) (hl:LL.length≤10) (hs:∀x∈LL,x.ss.length≤1000) (hok:∀s∈LL.flatMap SL.ss,s.ok=true) :
  SeqStopsK Fence.wide n Tryz.prog 193 #[.pointer (some ⟨B,0,none⟩)] Dir.enc (KpM M) (fun xs=>xs.map Subtype.val=turnsOf (LL.flatMap SL.ss)) (fun pre=>∃rest,turnsOf (LL.flatMap SL.ss)=pre.map Subtype.val++rest) (2*(LL.flatMap SL.ss).length) w:=by
 intro l J Jx W hW hJ hJx hY h0
 have hmx:=hmix
 have HW:=hide (Grew.of_below hW)
 have HR:=hide (hr.up HW.out)
 have HI:Hid (∀x∈LL,Rd W W.heap.size 6 x.A (x.ss.map Sec.cells)):=hide fun x hx=>(hin x hx).up HW.out
 have HS:=hide hs
 have HK:=hide hok
 have c0:W.cell? ⟨B,0,none⟩=some (.slice O LL.length c):=by rw[blk_cell ((hW.block B (blk_lt hB)).trans hB)];rfl
 have hMW:∀b,M b 108→b<W.heap.size:=fun b hb=>(hM b _ hb).elim (fun h=>Nat.lt_of_lt_of_le h hW.size) (fun h=>absurd rfl h)
 have HM:=hide hMW
 have HJ:=hide hJ
 have HJx:=hide hJx
 have HY:=hide hY
 have H0:=hide h0
 clear hr hin hs hok hM hMW hJ hJx hY h0 hW hB
 refine callsIn_of_wp Tryz.func193 rfl trivial ?_ rfl
 simp only[Tryz.ntmps193,List.size_toArray,List.length_cons,List.length_nil,Nat.reduceAdd,Nat.reduceSub,Array.replicate_succ,Array.replicate_zero,List.push_toArray,List.append_toArray,List.nil_append,List.cons_append]
 gi_wp2_with fail
 refine⟨trivial,(fun h=>by cases h),?_⟩
 refine (callsIn_wide.2 (Concat_any LL O c W HR.out HI.out hl HS.out)).mono ?_
 rintro e W1 ⟨v,rfl,hown,hg⟩
 have h1:J [] W1:=HJ.out _ _ _ none H0.out (hg.grownBy none) (fun r hr=>by cases hr)
 have hn:(LL.flatMap SL.ss).length≤10000:=by
  have:=preL_len HS.out LL.length
  rw[preL_all] at this
  omega
 have H1:=hide h1
 have HG:=hide hg
 clear h1 hg H0
 generalize hall:LL.flatMap SL.ss=ss at *
 have HA:=hide hall
 clear hall
 rcases hown.2 with⟨rfl,h0⟩|⟨g,cap,cur,rfl,hb,hgg,hnc,hmc,hcs,ht⟩
 ·have hss:ss=[]:=List.length_eq_zero_iff.1 h0
  subst hss
  dsimp only
  gi_wp2
  gi_loopw [8] (fun i wr=>i=.int .i64 0∧J [] wr) (fun _ _=>0)
  case atStart=>exact⟨rfl,H1.out⟩
  case round =>
   obtain⟨rfl,hJ⟩:=hrel
   gi_wp2
   go_end0
   exact⟨⟨_,rfl⟩,.inl ⟨[],by rw[HA.out];rfl,hJ⟩⟩
 ·dsimp only
  have HO:=hide hown
  have HT:=hide ht
  have HGG:=hide hgg
  unfold maxLen at hmc
  have hgW1:=blk_lt hgg
  clear hown ht hgg hcs hnc
  gi_wp2_with fail
  gi_loopw [8] (fun i wr=>∃ (k:Nat) (pre:List Dir),k≤ss.length∧i=.int .i64 k∧pre.map Subtype.val=turnsOf (ss.take k)∧J pre wr∧wr.heap[g]?=some (.cells cur 108 (0,0))∧W.heap.size≤wr.heap.size) (fun i _=>ss.length-(intOf i).toNat)
  case atStart=>exact⟨0,[],by omega,rfl,rfl,H1.out,HGG.out,by omega⟩
  case round =>
   obtain⟨k,pre,hk,rfl,hpre,hJ,hgk,hsz⟩:=hrel
   have HP:=hide hpre
   have hplen:pre.length=2*k:=by
    have:=congrArg List.length hpre
    rw[List.length_map,turns_len,List.length_take] at this
    omega
   have HPL:=hide hplen
   clear hpre hplen
   by_cases hlt:k<ss.length
   ·obtain⟨s,hs⟩:∃s,ss[k]?=some s:=⟨_,List.getElem?_eq_getElem hlt⟩
    have hsok:=HK.out s (List.mem_of_getElem? hs)
    have hcell:∀j v,s.cells[j]?=some v→wr.cell? ⟨g,k*6+j,none⟩=some v:=by
     intro j v hv
     have hj:j<6:=(List.getElem?_eq_some_iff.1 hv).1
     have h2:=(flatMap_get Sec.cells 6 sec_len ss k j v hj).2 ⟨s,hs,hv⟩
     rw[←HT.out,List.getElem?_take] at h2
     rw[blk_cell hgk]
     split at h2
     ·simpa using h2
     ·cases h2
    have c0:=hcell 0 _ rfl
    have c1:=hcell 1 _ rfl
    have c2:=hcell 2 _ rfl
    have c3:=hcell 3 _ rfl
    have c4:=hcell 4 _ rfl
    have c5:=hcell 5 _ rfl
    simp only[Nat.add_zero] at c0
    have hglt:=blk_lt hgk
    have HGK:=hide hgk
    have HS2:=hide hs
    clear hcell hgk hs
    have hix:=idx_run (cap:=cap) (A:=some ⟨g,0,none⟩) Tryz.underlying52 Tryz.sizeOf108 rfl hlt
    simp only[Nat.zero_add] at hix
    have d1:dirOk s.fx s.fy=true:=by simp[Sec.ok,secOk] at hsok;exact hsok.1.1.1
    have d2:dirOk s.tx s.ty=true:=by simp[Sec.ok,secOk] at hsok;exact hsok.1.1.2
    have hJ2:J pre (wr.alloc (.cells #[.int .i64 s.fx,.int .i64 s.fy,.int .i64 s.tx,.int .i64 s.ty,.int .i64 s.col,.int .i64 s.rng] 108)):=HJ.out _ _ _ none hJ (World.grownBy_alloc _ _ _) (fun r hr=>by cases hr)
    obtain⟨x1,hx1⟩:∃x:Dir,x.1=(s.fx,s.fy):=⟨⟨_,d1⟩,rfl⟩
    obtain⟨x2,hx2⟩:∃x:Dir,x.1=(s.tx,s.ty):=⟨⟨_,d2⟩,rfl⟩
    have e1:x1.enc=#[pt s.fx s.fy]:=by simp[Dir.enc,hx1]
    have e2:x2.enc=#[pt s.tx s.ty]:=by simp[Dir.enc,hx2]
    have hA1:∃rest,turnsOf ss=(pre++[x1]).map Subtype.val++rest:=by
     refine⟨(s.tx,s.ty)::turnsOf (ss.drop (k+1)),?_⟩
     rw[List.map_append,HP.out,List.map_singleton,hx1,List.append_assoc]
     have:=List.take_append_drop (k+1) ss
     conv=>lhs;rw[←this]
     show turnsOf _=_
     unfold turnsOf at *
     rw[List.flatMap_append,List.take_add_one,HS2.out]
     simp
    have hA2:((pre++[x1])++[x2]).map Subtype.val=turnsOf (ss.take (k+1)):=by
     rw[turns_snoc HS2.out,List.map_append,List.map_append,HP.out,List.map_singleton,List.map_singleton,hx1,hx2,List.append_assoc]
     rfl
    have hA3:∃rest,turnsOf ss=((pre++[x1])++[x2]).map Subtype.val++rest:=by
     refine⟨turnsOf (ss.drop (k+1)),?_⟩
     rw[hA2]
     unfold turnsOf
     rw[←List.flatMap_append,List.take_append_drop]
    have HA1:=hide hA1
    have HA2:=hide hA2
    have HA3:=hide hA3
    clear hA1 hA2 hA3 hx1 hx2 d1 d2
    obtain⟨fn1,tm1,as1,bo1,hy1,hR1⟩:=HY.out pre x1 _ hJ2 (by rw[HPL.out];omega)
    rw[e1] at hy1
    have HR1:=hide hR1
    have HSOK:=hide hsok
    clear hR1 hsok hJ hJ2 e1
    have hnM:∀b,W.heap.size≤b→¬ M b 108:=fun b hb hm=>by have:=HM.out b hm;omega
    have hkp:=HGK.out
    gi_wp2_with fail
    refine⟨(fun h=>by cases h),?_⟩
    refine HR1.out.mono ?_
    rintro e W3 (⟨rfl,hJ3,hk3⟩|⟨rfl,hJx3⟩)
    ·have hbox:=hk3 _ _ _ _ (hnM _ hsz) (heap_alloc_new wr _)
     have hrow:=hk3 _ _ _ _ (hnM _ hb) ((heap_alloc_old wr _ hglt).trans HGK.out)
     have b2:W3.cell? ⟨wr.heap.size,2,none⟩=some (.int .i64 s.tx):=blk_cell hbox 2
     have b3:W3.cell? ⟨wr.heap.size,3,none⟩=some (.int .i64 s.ty):=blk_cell hbox 3
     have hW3:=blk_lt hbox
     have hsz3:W.heap.size≤W3.heap.size:=by omega
     obtain⟨fn2,tm2,as2,bo2,hy2,hR2⟩:=HY.out _ x2 _ hJ3 (by rw[List.length_append,HPL.out];simp;omega)
     rw[e2] at hy2
     have HR2:=hide hR2
     have HROW:=hide hrow
     clear hR2 hrow hbox hk3 hJ3 e2 hkp hy1 hnM
     dsimp only
     gi_wp2_with fail
     refine⟨(fun h=>by cases h),?_⟩
     refine HR2.out.mono ?_
     have hnM:∀b,W.heap.size≤b→¬ M b 108:=fun b hb hm=>by have:=HM.out b hm;omega
     rintro e W4 (⟨rfl,hJ4,hk4⟩|⟨rfl,hJx4⟩)
     ·have hrow4:=hk4 _ _ _ _ (hnM _ hb) HROW.out
      have HROW4:=hide hrow4
      have HJ4:=hide hJ4
      have hsz4:W.heap.size≤W4.heap.size:=by have:=blk_lt hrow4;omega
      clear hrow4 hk4 hJ4 hy2 hnM b2 b3
      dsimp only
      gi_wp2_with fail
      go_roundw
      case rel=>exact⟨k+1,pre++[x1]++[x2],by omega,by go_num,HA2.out,HJ4.out,HROW4.out,hsz4⟩
      case measure=>simp[intOf];omega
     ·have HX:=hide hJx4
      clear hJx4 hnM
      dsimp only
      gi_wp2_with fail
      refine bodyPost_ret (results_none rfl _ _ _) rfl ?_
      exact⟨⟨_,rfl⟩,.inr ⟨_,by rw[HA.out];exact HA3.out,HX.out⟩⟩
    ·have HX:=hide hJx3
     clear hJx3 hnM hkp
     dsimp only
     gi_wp2_with fail
     refine⟨fun _ h=>(by cases h),?_⟩
     gi_wp2_with fail
     refine bodyPost_ret (results_none rfl _ _ _) rfl ?_
     exact⟨⟨_,rfl⟩,.inr ⟨_,by rw[HA.out];exact HA1.out,HX.out⟩⟩
   ·obtain rfl:k=ss.length:=by omega
    gi_wp2
    go_end0
    exact⟨⟨_,rfl⟩,.inl ⟨pre,by rw[HP.out,List.take_length,HA.out],hJ⟩⟩
def holdsAt (sa sb:List Sec)(col:Int)(v:Int×Int):Bool := !((showAt sa v.1 v.2).1==col&&((showAt sb v.1 v.2).1 != col||decide ((showAt sb v.1 v.2).2<(showAt sa v.1 v.2).2)))
def colOk (col:Int):Bool:=decide (1≤col∧col≤3)
def holdsOf (sa sb:List Sec)(col:Int):Bool×Int:=if (LValid sa&&LValid sb&&colOk col)=true then ((turnsOf (sa++sb)).all (holdsAt sa sb col),0) else (false,1)
theorem Holds_no (sa sb:List Sec)(A A':Option Addr)(c c':Nat)(col:Int)(w:World)(hra:Rd w w.heap.size 6 A (sa.map Sec.cells))(hrb:Rd w w.heap.size 6 A' (sb.map Sec.cells))(hla:sa.length≤c)(hlb:sb.length≤c')(hc:sa.length≤100000000000000)(hc':sb.length≤100000000000000)
  (h:(LValid sa&&LValid sb&&colOk col)=false) :
  Calls Tryz.prog 114 #[.slice A sa.length c,.slice A' sb.length c',.int .i64 col] w (Ret w (.tuple #[.bool false,.int .i64 1])):=by
 have hm:=hmix
 cases h1:LValid sa
 ·clear h
  go_enter Tryz.func114,Tryz.ntmps114
  go_wp2_with (go_at_call 83;refine crv (Valid_any sa A c _ (hra.up gw) hla hc) fun _ _=>?_;dsimp only;rw[h1])
  refine bodyPost_ret (v:=.tuple #[.bool false,.int .i64 1]) (by simp[results,Tryz.results114,go_sem]) rfl ?_
  exact Ret.mk' rfl gw
 ·cases h2:LValid sb
  ·clear h
   go_enter Tryz.func114,Tryz.ntmps114
   go_wp2_with fail
   refine (Valid_any sa A c _ (hra.up gw) hla hc).mono ?_
   rintro e w' ⟨rfl,⟨_,_⟩,rfl⟩
   rw[h1]
   dsimp only
   go_wp2_with fail
   refine (Valid_any sb A' c' _ (hrb.up gw) hlb hc').mono ?_
   rintro e w' ⟨rfl,⟨_,_⟩,rfl⟩
   rw[h2]
   dsimp only
   go_wp2_with fail
   refine bodyPost_ret (v:=.tuple #[.bool false,.int .i64 1]) (by simp[results,Tryz.results114,go_sem]) rfl ?_
   exact Ret.mk' rfl gw
  ·have h3:colOk col=false:=by rw[h1,h2] at h;simpa using h
   have h4:col<1∨3<col:=by simp[colOk] at h3;omega
   clear h h3
   rcases h4 with h4|h4
   ·have h5:decide (col<1)=true:=by simpa using h4
    go_enter Tryz.func114,Tryz.ntmps114
    go_wp2_with fail
    refine (Valid_any sa A c _ (hra.up gw) hla hc).mono ?_
    rintro e w' ⟨rfl,⟨_,_⟩,rfl⟩
    rw[h1]
    dsimp only
    go_wp2_with fail
    refine (Valid_any sb A' c' _ (hrb.up gw) hlb hc').mono ?_
    rintro e w' ⟨rfl,⟨_,_⟩,rfl⟩
    rw[h2]
    dsimp only
    go_wp2_with fail
    refine bodyPost_ret (v:=.tuple #[.bool false,.int .i64 1]) (by simp[results,Tryz.results114,go_sem]) rfl ?_
    exact Ret.mk' rfl gw
   ·have h5:decide (col<1)=false:=by simp;omega
    go_enter Tryz.func114,Tryz.ntmps114
    go_wp2_with fail
    refine (Valid_any sa A c _ (hra.up gw) hla hc).mono ?_
    rintro e w' ⟨rfl,⟨_,_⟩,rfl⟩
    rw[h1]
    dsimp only
    go_wp2_with fail
    refine (Valid_any sb A' c' _ (hrb.up gw) hlb hc').mono ?_
    rintro e w' ⟨rfl,⟨_,_⟩,rfl⟩
    rw[h2]
    dsimp only
    go_wp2_with fail
    refine bodyPost_ret (v:=.tuple #[.bool false,.int .i64 1]) (by simp[results,Tryz.results114,go_sem]) rfl ?_
    exact Ret.mk' rfl gw
abbrev boxesH (sa sb:List Sec)(A A':Option Addr)(c c':Nat)(col:Int):List Obj:=[.cells #[.slice A sa.length c] 52 (0,0),.cells #[.slice A' sb.length c'] 52 (0,0),.cells #[.int .i64 col] 3 (0,0),.cells #[.bool false] 4 (0,0),.cells #[.int .i64 0] 29 (0,0)]
theorem Holds_yes (sa sb:List Sec)(A A':Option Addr)(c c':Nat)(col:Int)(w:World)(hra:Rd w w.heap.size 6 A (sa.map Sec.cells))(hrb:Rd w w.heap.size 6 A' (sb.map Sec.cells))(hla:sa.length≤c)(hlb:sb.length≤c')(hc:sa.length≤100000000000000)(hc':sb.length≤100000000000000)
  (h1:LValid sa=true) (h2:LValid sb=true) (h3:1≤col∧col≤3) :
  Calls Tryz.prog 114 #[.slice A sa.length c,.slice A' sb.length c',.int .i64 col] w (Ret w (.tuple #[.bool ((turnsOf (sa++sb)).all (holdsAt sa sb col)),.int .i64 0])):=by
 have hm:=hmix
 have HRA:=hide hra
 have HRB:=hide hrb
 clear hra hrb
 obtain⟨hoka,hl1⟩:=LV_ok h1
 obtain⟨hokb,hl2⟩:=LV_ok h2
 have HOA:=hide hoka
 have HOB:=hide hokb
 clear hoka hokb
 have h5:decide (col<1)=false:=by simp;omega
 have h6:decide (3<col)=false:=by simp;omega
 refine (callsIn_wide (n:=9)).1 ?_
 refine callsIn_of_wp_marks Tryz.func114 rfl trivial ?_ rfl
 simp only[Tryz.ntmps114,List.size_toArray,List.length_cons,List.length_nil,Nat.reduceAdd,Nat.reduceSub,Array.replicate_succ,Array.replicate_zero,List.push_toArray,List.append_toArray,List.nil_append,List.cons_append]
 gi_wp2_with fail
 refine⟨trivial,?_⟩
 refine (callsIn_wide.2 (Valid_any sa A c _ (HRA.out.up gw) hla hc)).mono ?_
 rintro e w' ⟨rfl,⟨_,_⟩,rfl⟩
 rw[h1]
 dsimp only
 gi_wp2_with fail
 refine⟨trivial,?_⟩
 refine (callsIn_wide.2 (Valid_any sb A' c' _ (HRB.out.up gw) hlb hc')).mono ?_
 rintro e W1 ⟨rfl,hg⟩
 rw[h2]
 obtain⟨hbx,hgw⟩:=Bx.allocs (boxesH sa sb A A' c c' col) w
 have hg1:Grew (List.foldl World.alloc w (boxesH sa sb A A' c c' col)) W1:=by
  refine Grew.trans ?_ hg
  dsimp only[boxesH,List.foldl]
  exact gw
 have hb1:=hbx.grew hg1
 have hw1:=hgw.trans hg1
 clear hg hgw hg1 hbx
 have c0:W1.cell? ⟨w.heap.size,0,none⟩=_:=(hb1.box 0 rfl).cell
 have c1:W1.cell? ⟨w.heap.size+1,0,none⟩=_:=(hb1.box 1 rfl).cell
 have c2:W1.cell? ⟨w.heap.size+1+1,0,none⟩=_:=(hb1.box 2 rfl).cell
 have HB1:=hide hb1
 have HW1:=hide hw1
 clear hb1 hw1
 dsimp only
 gi_wp2_with fail
 refine⟨trivial,?_⟩
 refine (callsIn_wide.2 (turns_any _ _ _ _)).mono ?_
 rintro e w' ⟨rfl,rfl⟩
 dsimp only
 gi_wp2_with fail
 refine wpIn_name ?_
 intro a0 W0 ha hW
 have hg0:Grew w W0:=by rw[←hW];exact (HW1.out.alloc _).alloc _
 have hb0:=HB1.out.grew (W':=W0) (by rw[←hW];exact gw)
 have hsz:w.heap.size≤W0.heap.size:=hg0.below.size
 have hz:W0.heap.size=W1.heap.size+2:=by rw[←hW];simp
 have hk0:W0.heap[W1.heap.size]?=some (.cells #[.slice A sa.length c,.slice A' sb.length c'] 52 (0,0)):=by
  rw[←hW]
  exact (heap_alloc_old _ _ (by simp)).trans (heap_alloc_new _ _)
 have hk1:W0.heap[W1.heap.size+1]?=some (.cells #[.slice (some ⟨W1.heap.size,0,none⟩) 2 2] 211 (0,0)):=by
  have:=heap_alloc_new (W1.alloc (.cells #[.slice A sa.length c,.slice A' sb.length c'] 52 (0,0))) (.cells #[.slice (some ⟨W1.heap.size,0,none⟩) 2 2] 211 (0,0))
  rw[World.size_alloc'] at this
  rw[←hW]
  exact this
 have h5z:w.heap.size+4<W0.heap.size:=(hb0.box 4 rfl).lt
 clear hW c0 c1 c2
 have hLL:([⟨A,c,sa⟩,⟨A',c',sb⟩]:List SL).flatMap SL.ss=sa++sb:=by simp
 refine wpIn_rangeFunc_ownH (n:=9) rfl (by omega) (gf:=193) (lb:=#[.pointer (some ⟨W1.heap.size+1,0,none⟩)]) (by rw[←ha];simp[Act.eval]) trivial (enters_of Tryz.func193 (by kernel_rfl) rfl)
  (turns1_stops 8 (fun b _=>b=w.heap.size+3∨b=w.heap.size+4) [⟨A,c,sa⟩,⟨A',c',sb⟩] (some ⟨W1.heap.size,0,none⟩) 2 (W1.heap.size+1) W0 (fun b _ hb=>.inl (by omega)) hk1
   (.inr ⟨_,_,rfl,by omega,fun k x hx j v hv=>by
    rw[blk_cell hk0]
    match k,hx with
    | 0,hx=>injection hx with hx;subst hx;match j,hv with|0,hv=>exact hv
    | 1,hx=>injection hx with hx;subst hx;match j,hv with|0,hv=>exact hv⟩)
   (by intro x hx;simp at hx;rcases hx with rfl|rfl<;>first|exact HRA.out.up hg0|exact HRB.out.up hg0) (by simp) (by intro x hx;simp at hx;rcases hx with rfl|rfl<;>(simp;omega)) (by rw[hLL];intro s hs;rcases List.mem_append.1 hs with h|h<;>first|exact HOA.out s h|exact HOB.out s h))
  (fun h k=>h.trans k) KpM.bk (Below.refl _ _) (fun _=>rfl)
  (fun pre W=>(Below w.heap.size w W∧Bx W w.heap.size (boxesH sa sb A A' c c' col))∧∀v∈pre,holdsAt sa sb col v.1=true)
  (fun q pre W=>((Below w.heap.size w W∧Boxed W (w.heap.size+3) 4 (.bool false))∧Boxed W (w.heap.size+4) 29 (.int .i64 0))∧q=.ret∧∃v∈pre,holdsAt sa sb col v.1=false)
  (OwnFrom.and (OwnFrom.and (ownFrom_below (Nat.le_refl _) hsz) (Bx.own h5z)) (ownFrom_pure _))
  (fun q=>OwnFrom.and (OwnFrom.and (OwnFrom.and (ownFrom_below (Nat.le_refl _) hsz) (Own.from (boxed_own _ _ _) _)) (Own.from (boxed_own _ _ _) _)) (ownFrom_pure _))
  ⟨⟨hg0.below,hb0⟩,fun v hv=>by cases hv⟩
  (fun x a' W=>∃B,W.heap[B]?=some (.cells #[.int .i64 x.1.1,.int .i64 x.1.2] 158 (0,0))∧a'={ tmps:=(a0.tmps.setIfInBounds 31 (pt x.1.1 x.1.2)).setIfInBounds 8 (.pointer (some ⟨B,0,none⟩)),defers:=[] })
  (fun x a'=>by
   rintro s X Y row ⟨B,h1,h2⟩ hg hr
   exact⟨B,cells_own h1 hg (fun r e=>(hr r e).2),h2⟩)
  ?assign ?body ?done ?stop
 case assign =>
  rintro l pre x W K ⟨⟨hB,hb⟩,hp⟩ hK
  rw[show x.enc=#[pt x.1.1 x.1.2] from rfl,asg1]
  subst ha
  simp only[List.setIfInBounds_toArray,List.set_cons_succ,List.set_cons_zero] at hK ⊢
  have hKK:=hide hK
  clear hK
  gi_wp2_with fail
  exact hKK.out _ _ ((KeepsOthers.alloc _ _).from _) (KpM.grew (Grew.alloc (Grew.refl _) _)) ⟨⟨hB.alloc hB.size _,hb.grew (Grew.alloc (Grew.refl _) _)⟩,hp⟩ ⟨W.heap.size,heap_alloc_new _ _,rfl⟩
 case body =>
  rintro l pre x a' W hl _ ⟨⟨hB,hb⟩,hp⟩ ⟨B,hx,rfl⟩ hlt
  subst ha
  have c0:W.cell? ⟨w.heap.size,0,none⟩=_:=(hb.box 0 rfl).cell
  have c1:W.cell? ⟨w.heap.size+1,0,none⟩=_:=(hb.box 1 rfl).cell
  have c2:W.cell? ⟨w.heap.size+1+1,0,none⟩=_:=(hb.box 2 rfl).cell
  have c3:W.cell? ⟨B,0,none⟩=some _:=blk_cell hx 0
  have c4:W.cell? ⟨B,1,none⟩=some _:=blk_cell hx 1
  have hBl:=blk_lt hx
  have h4l:=(hb.box 4 rfl).lt
  have l0:w.heap.size<W.heap.size:=by omega
  have l1:w.heap.size+1<W.heap.size:=by omega
  have l2:w.heap.size+1+1<W.heap.size:=by omega
  have l3:w.heap.size+1+1+1<W.heap.size:=by omega
  have l4:w.heap.size+1+1+1+1<W.heap.size:=by omega
  have g3:W.cell? ⟨w.heap.size+1+1+1,0,none⟩=_:=(hb.box 3 rfl).cell
  have g4:W.cell? ⟨w.heap.size+1+1+1+1,0,none⟩=_:=(hb.box 4 rfl).cell
  have f3:W.frozen? ⟨w.heap.size+1+1+1,0,none⟩=_:=(hb.box 3 rfl).frozen
  have f4:W.frozen? ⟨w.heap.size+1+1+1+1,0,none⟩=_:=(hb.box 4 rfl).frozen
  have HRA':=hide (HRA.out.up (Grew.of_below hB))
  have HRB':=hide (HRB.out.up (Grew.of_below hB))
  have HP:=hide hp
  have HB:=hide hB
  have Hb:=hide hb
  clear hp hB hb hx hlt
  obtain⟨⟨vx,vy⟩,hv⟩:=x
  have hbd:=dir_bd hv
  dsimp only at hbd c3 c4 HP
  simp only[List.setIfInBounds_toArray,List.set_cons_succ,List.set_cons_zero]
  gi_wp2_with fail
  refine wpIn_region_qas 10 [⟨6,8,9,178,.agg #[.int .i64 0,.int .i64 0]⟩,⟨7,9,10,178,.agg #[.int .i64 0,.int .i64 0]⟩] [] hm (hZ:=(ZOk.cons Tryz.zeroValue178 Tryz.sizeOf178 (ZOk.cons Tryz.zeroValue178 Tryz.sizeOf178 ZOk.nil))) (h:=?_)
  repeat (refine wpSteady_step (fun K hK=>?_);go_simp;first|(refine hK _ ?_;clear hK K)|(apply Exists.intro;refine⟨fun _=>?_,hK _ ?_⟩;(go_at_call 156;first|with_reducible exact shown_any sa A c _ _ _ (HRA'.out.up gw) hla hc HOA.out hbd.1 hbd.2|with_reducible exact shown_any sb A' c' _ _ _ (HRB'.out.up gw) hlb hc' HOB.out hbd.1 hbd.2);clear hK K))
  refine wpSteady_nil ?_
  refine⟨(StOk.cons (by rfl) (by simp[stOpnd,Act.eval,Value.cells,Value.oneCell']) (StOk.cons (by rfl) (by simp[stOpnd,Act.eval,Value.cells,Value.oneCell']) StOk.nil)),LyOk.nil,?_⟩
  rintro psq qsq Wq HWq HFq HBq
  obtain rfl:qsq=[]:=HBq
  obtain⟨p0,_,rfl,hp0,hb0,hn0,p1,_,rfl,hp1,hb1,hn1,rfl⟩:=HFq
  simp only[putAll,putB,Act.put,setA]
  simp[stOpnd,Act.eval,Value.cells] at hb0
  have gc0_0:Wq.cell? ⟨p0,0,none⟩=some _:=blk_cell hb0 0
  have gc0_1:Wq.cell? ⟨p0,1,none⟩=some _:=blk_cell hb0 1
  have gf0:=blk_frozen hb0
  have gl0:=blk_lt hb0
  simp[stOpnd,Act.eval,Value.cells] at hb1
  have gc1_0:Wq.cell? ⟨p1,0,none⟩=some _:=blk_cell hb1 0
  have gc1_1:Wq.cell? ⟨p1,1,none⟩=some _:=blk_cell hb1 1
  have gf1:=blk_frozen hb1
  have gl1:=blk_lt hb1
  have gn:p0≠p1:=by simpa using hn0
  have gm:p1≠p0:=fun e=>gn e.symm
  have gp0:=hide hp0
  have gp1:=hide hp1
  clear hb0 hn0 hp0 hb1 hn1 hp1
  have oc:=old_cell HWq
  have of:=old_frozen HWq
  have ol:=old_lt HWq
  replace HWq:=hide HWq
  gi_wp2_with fail
  all_goals have hb9:=Hb.out.grew HWq.out
  all_goals have hB9:=HB.out.trans (HWq.out.below.mono HB.out.size)
  all_goals first
   |(refine⟨HWq.out.keepsFrom _,KpM.grew HWq.out,⟨hB9,hb9⟩,fun v hv'=>?_⟩
     rcases List.mem_append.1 hv' with h|h
     ·exact HP.out v h
     ·obtain rfl:=List.mem_singleton.1 h
      simp[holdsAt]
      omega)
   |(refine⟨(HWq.out.keepsFrom _).trans ((KeepsFrom.setCell _ _ _ _).trans (KeepsFrom.setCell _ _ _ _)),⟨⟨(hB9.setCell (p:=⟨w.heap.size+1+1+1,0,none⟩) (by simp;omega) _).setCell (p:=⟨w.heap.size+1+1+1+1,0,none⟩) (by simp;omega) _,((hb9.box 3 rfl).set _).other (by omega) _⟩,((hb9.box 4 rfl).other (by omega) _).set _⟩,rfl,⟨⟨(vx,vy),hv⟩,List.mem_append_right _ (List.mem_singleton.2 rfl),?_⟩⟩
     simp[holdsAt]
     omega)
 case done =>
  subst ha
  rintro D xs W hD hS ⟨⟨hB,hb⟩,hp⟩ hK
  have b3:Boxed W (w.heap.size+1+1+1) _ _:=hb.box 3 rfl
  have b4:Boxed W (w.heap.size+1+1+1+1) _ _:=hb.box 4 rfl
  have c3:=b3.cell
  have f3:=b3.frozen
  have c4:=b4.cell
  have f4:=b4.frozen
  have HB:=hide hB
  have HS:=hide hS
  have HP:=hide hp
  clear hB hb hS hp b3 b4
  gi_wp2_with fail
  have hK2:=((KeepsOthers.setCell W ⟨w.heap.size+1+1+1,0,none⟩ (.bool true)).trans (KeepsOthers.setCell _ ⟨w.heap.size+1+1+1+1,0,none⟩ (.int .i64 0))).same D _ hK rfl
  refine⟨by simp,.inl ⟨_,_,rfl,run_takeDeferred hK2,?_⟩⟩
  have hb5:=((HB.out.setCell (p:=⟨w.heap.size+1+1+1,0,none⟩) (by simp;omega) (.bool true)).setCell (p:=⟨w.heap.size+1+1+1+1,0,none⟩) (by simp;omega) (.int .i64 0)).trans (belowK_b (w:=w) (Nat.le_refl _) _ D _ (.deferred none) (by omega) hK2 rfl rfl)
  have e3:(((W.setCell ⟨w.heap.size+1+1+1,0,none⟩ (.bool true)).setCell ⟨w.heap.size+1+1+1+1,0,none⟩ (.int .i64 0)).putObj D (.deferred none)).cell? ⟨w.heap.size+1+1+1,0,none⟩=some (.bool true):=by
   rw[putObj_cell (by omega)]
   go_simp
  have e4:(((W.setCell ⟨w.heap.size+1+1+1,0,none⟩ (.bool true)).setCell ⟨w.heap.size+1+1+1+1,0,none⟩ (.int .i64 0)).putObj D (.deferred none)).cell? ⟨w.heap.size+1+1+1+1,0,none⟩=some (.int .i64 0):=by
   rw[putObj_cell (by omega)]
   go_simp
  refine⟨.tuple #[.bool true,.int .i64 0],by simp[results,Tryz.results114,go_sem,e3,e4],?_⟩
  refine Ret.mk' (ret_tup2 (ret_bool ?_) rfl) (Grew.of_below hb5)
  rw[←hLL,←HS.out,List.all_map]
  symm
  rw[List.all_eq_true]
  exact fun v hv=>HP.out v hv
 case stop =>
  subst ha
  rintro D q pre W hD ⟨rest,hr⟩ ⟨⟨⟨hB,hb1⟩,hb2⟩,rfl,hp⟩ hK
  have c3:W.cell? ⟨w.heap.size+1+1+1,0,none⟩=_:=hb1.cell
  have c4:W.cell? ⟨w.heap.size+1+1+1+1,0,none⟩=_:=hb2.cell
  have HB:=hide hB
  have HS:=hide hr
  have HP:=hide hp
  clear hB hb1 hb2 hr hp
  gi_wp2_with fail
  refine⟨by simp,.inl ⟨_,_,rfl,run_takeDeferred hK,?_⟩⟩
  have hb5:=HB.out.trans (belowK_b (w:=w) (Nat.le_refl _) _ D _ (.deferred none) (by omega) hK rfl rfl)
  have e3:=(putObj_cell (W:=W) (D:=D) (i:=0) (o:=.deferred none) (b:=w.heap.size+1+1+1) (by omega)).trans c3
  have e4:=(putObj_cell (W:=W) (D:=D) (i:=0) (o:=.deferred none) (b:=w.heap.size+1+1+1+1) (by omega)).trans c4
  refine⟨.tuple #[.bool false,.int .i64 0],by simp[results,Tryz.results114,go_sem,e3,e4],?_⟩
  refine Ret.mk' (ret_tup2 (ret_bool ?_) rfl) (Grew.of_below hb5)
  rw[←hLL,HS.out,List.all_append,List.all_map]
  symm
  rw[Bool.and_eq_false_iff]
  left
  rw[List.all_eq_false]
  obtain⟨v,hv,hv'⟩:=HP.out
  exact⟨v,hv,by simp[hv']⟩
theorem Holds_any (sa sb:List Sec)(A A':Option Addr)(c c':Nat)(col:Int)(w:World)(hra:Rd w w.heap.size 6 A (sa.map Sec.cells))(hrb:Rd w w.heap.size 6 A' (sb.map Sec.cells))(hla:sa.length≤c)(hlb:sb.length≤c')(hc:sa.length≤100000000000000)(hc':sb.length≤100000000000000) :
  Calls Tryz.prog 114 #[.slice A sa.length c,.slice A' sb.length c',.int .i64 col] w (Ret w (.tuple #[.bool (holdsOf sa sb col).1,.int .i64 (holdsOf sa sb col).2])):=by
 unfold holdsOf
 cases h:LValid sa&&LValid sb&&colOk col
 ·exact Holds_no sa sb A A' c c' col w hra hrb hla hlb hc hc' h
 ·rw[Bool.and_eq_true,Bool.and_eq_true] at h
  exact Holds_yes sa sb A A' c c' col w hra hrb hla hlb hc hc' h.1.1 h.1.2 (by simpa[colOk] using h.2)
theorem holdsOf_err (sa sb:List Sec)(col:Int):((holdsOf sa sb col).2=0∧(LValid sa&&LValid sb&&colOk col)=true)∨holdsOf sa sb col=(false,1):=by
 unfold holdsOf
 split
 ·exact .inl ⟨rfl,by assumption⟩
 ·exact .inr rfl
def saferOf (sa sb:List Sec):Bool×Int:=((holdsOf sb sa 1).2==0 && !(holdsOf sb sa 1).1,(holdsOf sb sa 1).2)
theorem Safer_any (sa sb:List Sec)(A A':Option Addr)(c c':Nat)(w:World)(hra:Rd w w.heap.size 6 A (sa.map Sec.cells))(hrb:Rd w w.heap.size 6 A' (sb.map Sec.cells))(hla:sa.length≤c)(hlb:sb.length≤c')(hc:sa.length≤100000000000000)(hc':sb.length≤100000000000000) :
  Calls Tryz.prog 75 #[.slice A sa.length c,.slice A' sb.length c'] w (Ret w (.tuple #[.bool (saferOf sa sb).1,.int .i64 (saferOf sa sb).2])):=by
 have hm:=hmix
 have key:=Holds_any sb sa A' A c' c 1 w hrb hra hlb hla hc' hc
 unfold saferOf
 rcases holdsOf_err sb sa 1 with⟨h,_⟩|h
 ·cases h2:(holdsOf sb sa 1).1
  all_goals
   rw[h]
   go_enter Tryz.func75,Tryz.ntmps75
   go_wp2_with (go_at_call 114;refine crv (Holds_any sb sa A' A c' c 1 _ (hrb.up gw) (hra.up gw) hlb hla hc' hc) fun _ _=>?_;dsimp only;rw[h,h2])
   first|go_ret2|(refine bodyPost_ret (v:=_) (by simp[results,Tryz.results75,go_sem];rfl) rfl ?_)
   exact Ret.mk' (by simp) gw
 ·rw[h]
  go_enter Tryz.func75,Tryz.ntmps75
  go_wp2_with (go_at_call 114;refine crv (Holds_any sb sa A' A c' c 1 _ (hrb.up gw) (hra.up gw) hlb hla hc' hc) fun _ _=>?_;dsimp only;rw[h])
  first|go_ret2|(refine bodyPost_ret (v:=_) (by simp[results,Tryz.results75,go_sem];rfl) rfl ?_)
  exact Ret.mk' (by simp) gw
end Go.Proofs.YtblgdlnmabkpoaaGreat

