import Derived.Test.YtblgdlnmabkpoaaGreatRfD
import Derived.Test.YtblgdlnmabkpoaaGreatRuY
import Derived.Test.YtblgdlnmabkpoaaGreatRuF
import Derived.Test.YtblgdlnmabkpoaaGreatRkY
/- The reference implementation of package rule: change, shoaler. -/
set_option linter.unusedSimpArgs false
set_option linter.unusedVariables false
set_option maxHeartbeats 16000000
set_option maxRecDepth 100000
namespace Go.Proofs.YtblgdlnmabkpoaaGreat
open Go.RowKit Go.Sort
attribute [local go_sem] Steady steadyUpon
attribute [local go_sem ↓] hs_dr lt_add_r lt_add_r2 lt_add_r3 lt_add_r4 lt_add_r5 lt_add_r6
attribute [local go_sem] cell?_gd frozen?_gd setCell_gd size_grow tape_grow cell?_grow' frozen?_grow' setCell_grow' grow_grow grow_dr grow_drew dr_dr dr_drew drew_dr dr_alloc dr_setCell dr_cell dr_frozen dr_tape dr_drawn
attribute [local irreducible] wpSteady
abbrev set9 (W:World)(Z:Nat)(v0 v1 v2 v3 v4 v5 v6 v7 v8:Value):World:=((((((((W.setCell ⟨Z,0,none⟩ v0).setCell ⟨Z,1,none⟩ v1).setCell ⟨Z,2,none⟩ v2).setCell ⟨Z,3,none⟩ v3).setCell ⟨Z,4,none⟩ v4).setCell ⟨Z,5,none⟩ v5).setCell ⟨Z,6,none⟩ v6).setCell ⟨Z,7,none⟩ v7).setCell ⟨Z,8,none⟩ v8
theorem set9_at {W:World}{Z:Nat}{a0 a1 a2 a3 a4 a5 a6 a7 a8 v0 v1 v2 v3 v4 v5 v6 v7 v8:Value}{T:TypeId}(h:W.heap[Z]?=some (.cells #[a0,a1,a2,a3,a4,a5,a6,a7,a8] T (0,0))):(set9 W Z v0 v1 v2 v3 v4 v5 v6 v7 v8).heap[Z]?=some (.cells #[v0,v1,v2,v3,v4,v5,v6,v7,v8] T (0,0)):=by
 have h0:=heap_setCell_same _ Z 0 _ _ v0 h
 have h1:=heap_setCell_same _ Z 1 _ _ v1 h0
 have h2:=heap_setCell_same _ Z 2 _ _ v2 h1
 have h3:=heap_setCell_same _ Z 3 _ _ v3 h2
 have h4:=heap_setCell_same _ Z 4 _ _ v4 h3
 have h5:=heap_setCell_same _ Z 5 _ _ v5 h4
 have h6:=heap_setCell_same _ Z 6 _ _ v6 h5
 have h7:=heap_setCell_same _ Z 7 _ _ v7 h6
 have h8:=heap_setCell_same _ Z 8 _ _ v8 h7
 simpa using h8
theorem set9_grew {w W:World}{Z:Nat}{v0 v1 v2 v3 v4 v5 v6 v7 v8:Value}(h:Below w.heap.size w W)(hZ:w.heap.size≤Z):Grew w (set9 W Z v0 v1 v2 v3 v4 v5 v6 v7 v8) :=
 Grew.of_below (((((((((h.setCell (p:=⟨Z,0,none⟩) hZ _).setCell (p:=⟨Z,1,none⟩) hZ _).setCell (p:=⟨Z,2,none⟩) hZ _).setCell (p:=⟨Z,3,none⟩) hZ _).setCell (p:=⟨Z,4,none⟩) hZ _).setCell (p:=⟨Z,5,none⟩) hZ _).setCell (p:=⟨Z,6,none⟩) hZ _).setCell (p:=⟨Z,7,none⟩) hZ _).setCell (p:=⟨Z,8,none⟩) hZ _)
theorem own_set9 {W:World}{Z base n m:Nat}{e:TypeId}{v:Value}{xs:List Value}{v0 v1 v2 v3 v4 v5 v6 v7 v8:Value}(h:W.ownsRow base e m v n xs)(hZ:Z<base):(set9 W Z v0 v1 v2 v3 v4 v5 v6 v7 v8).ownsRow base e m v n xs :=
 ownsRow_setCell_below (ownsRow_setCell_below (ownsRow_setCell_below (ownsRow_setCell_below (ownsRow_setCell_below (ownsRow_setCell_below (ownsRow_setCell_below (ownsRow_setCell_below (ownsRow_setCell_below h hZ _) hZ _) hZ _) hZ _) hZ _) hZ _) hZ _) hZ _) hZ _
/-- What the reference's change hands back. -/
def ChgQ (w:World)(f t:FV)(e:Ending)(w':World):Prop:=∃f':FV,e=.returned f'.val∧f'.bare=t.bare∧f'.rd w' w'.heap.size∧Grew w w'∧∀g W2,g<w.heap.size→FSt w g f→w'.grownBy W2 (some g)→f'.rd W2 W2.heap.size
abbrev fcl (f:FV):Obj:=.cells #[.int .i64 f.id,.int .i64 f.kind,.int .i64 f.x,.int .i64 f.y,.int .i64 f.rad,.slice f.aA f.area.length f.ac,.int .i64 f.dep,.int .i64 f.sym,.slice f.sA f.secs.length f.sc] 54 (0,0)
/-- The feature's block and the result's while a feature is changed. -/
structure CHB (w W:World) (f:FV):Prop where
 g:Below w.heap.size w W
 x:W.heap[w.heap.size+1]?=some (fcl f)
 z:W.heap[w.heap.size+1+1]?=some (.cells #[.int .i64 0,.int .i64 0,.int .i64 0,.int .i64 0,.int .i64 0,.slice none 0 0,.int .i64 0,.int .i64 0,.slice none 0 0] 54 (0,0))
theorem CHB.up {w W W':World}{f:FV}(h:CHB w W f)(g:Grew W W'):CHB w W' f :=
 ⟨h.g.trans (g.below.mono h.g.size),(g.heap (blk_lt h.x)).trans h.x,(g.heap (blk_lt h.z)).trans h.z⟩
abbrev fst9 (W:World)(Z:Nat)(f:FV):World:=set9 W Z (.int .i64 f.id) (.int .i64 f.kind) (.int .i64 f.x) (.int .i64 f.y) (.int .i64 f.rad) (.slice f.aA f.area.length f.ac) (.int .i64 f.dep) (.int .i64 f.sym) (.slice f.sA f.secs.length f.sc)
theorem chg_end {w W W':World}{f f0 t:FV}{fn:Func}{a:Act}(h:CHB w W f)(hres:fn.results=#[.cell 4 54])(hp:a.tmps.getD 4 undef=.pointer (some ⟨w.heap.size+1+1,0,none⟩))(hd:a.defers=[])
  (g:Grew (fst9 W (w.heap.size+1+1) f) W') (hb:f.bare=t.bare) (hr:f.rd (fst9 W (w.heap.size+1+1) f) (fst9 W (w.heap.size+1+1) f).heap.size)
  (hS:∀g W2,g<w.heap.size→FSt w g f0→(fst9 W (w.heap.size+1+1) f).grownBy W2 (some g)→f.rd W2 W2.heap.size):bodyPost Tryz.prog fn (ChgQ w f0 t) .ret a W':=by
 have h9:=set9_at (v0:=.int .i64 f.id) (v1:=.int .i64 f.kind) (v2:=.int .i64 f.x) (v3:=.int .i64 f.y) (v4:=.int .i64 f.rad) (v5:=.slice f.aA f.area.length f.ac) (v6:=.int .i64 f.dep) (v7:=.int .i64 f.sym) (v8:=.slice f.sA f.secs.length f.sc) h.z
 have h10:=(g.heap (blk_lt h9)).trans h9
 have hg:Grew w W':=(set9_grew h.g (by omega)).trans g
 exact bodyPost_ret (results_cell_row hres _ _ (w.heap.size+1+1) _ _ _ _ hp h10 Tryz.underlying54 rfl (by kernel_rfl)) hd ⟨f,rfl,hb,hr.up g,hg,fun g0 W2 h1 h2 h3=>hS g0 W2 h1 h2 (gb_trans (g.grownBy _) h3)⟩
theorem rok_partsG {o k n:Int}(h:ruleOk o k n=true):(1≤o∧o≤5)∧(0≤n∧n≤100000)∧(o=2→1≤n):=by
 unfold ruleOk at h
 rw[Bool.and_eq_true,Bool.and_eq_true,decide_eq_true_eq,decide_eq_true_eq] at h
 obtain⟨h1,h2,h3⟩:=h
 have hc:o=1∨o=2∨o=3∨o=4∨o=5:=by omega
 rcases hc with rfl|rfl|rfl|rfl|rfl<;>simp[opKinds,opLeast,opMost] at h2 h3<;>omega
theorem calls_nm {P:Program}{f:FuncId}{args:Array Value}{w:World}{post:Ending→World→Prop}(h:∀X,w=X→Calls P f args X post):Calls P f args w post:=h _ rfl
theorem fmod_nn {d n:Int}(hd:0≤d∧d≤100000)(hn:1≤n):d.tmod n=d%n∧0≤d%n∧d%n<n :=
 ⟨Int.tmod_eq_emod_of_nonneg hd.1,Int.emod_nonneg _ (by omega),Int.emod_lt_of_pos _ (by omega)⟩
theorem CHB.new (w:World)(o k n:Int)(f:FV):CHB w (((w.alloc (.cells #[.int .i64 o,.int .i64 k,.int .i64 n] 48)).alloc (fcl f)).alloc (.cells #[.int .i64 0,.int .i64 0,.int .i64 0,.int .i64 0,.int .i64 0,.slice none 0 0,.int .i64 0,.int .i64 0,.slice none 0 0] 54)) f:=by
 refine⟨(((Grew.refl w).alloc _).alloc _ |>.alloc _).below,?_,?_⟩
 ·exact ((Grew.refl _).alloc _ |>.heap (by simp)).trans (by have:=heap_alloc_new (w.alloc (.cells #[.int .i64 o,.int .i64 k,.int .i64 n] 48)) (fcl f);simpa using this)
 ·have:=heap_alloc_new (((w.alloc (.cells #[.int .i64 o,.int .i64 k,.int .i64 n] 48)).alloc (fcl f))) (.cells #[.int .i64 0,.int .i64 0,.int .i64 0,.int .i64 0,.int .i64 0,.slice none 0 0,.int .i64 0,.int .i64 0,.slice none 0 0] 54 (0,0))
  simpa using this
theorem CHB.set {w W W':World}{f f':FV}(h:CHB w W f)(i:Nat)(v:Value)(hx:(#[.int .i64 f.id,.int .i64 f.kind,.int .i64 f.x,.int .i64 f.y,.int .i64 f.rad,.slice f.aA f.area.length f.ac,.int .i64 f.dep,.int .i64 f.sym,.slice f.sA f.secs.length f.sc]:Array Value).setIfInBounds i v=#[.int .i64 f'.id,.int .i64 f'.kind,.int .i64 f'.x,.int .i64 f'.y,.int .i64 f'.rad,.slice f'.aA f'.area.length f'.ac,.int .i64 f'.dep,.int .i64 f'.sym,.slice f'.sA f'.secs.length f'.sc])(g:Grew (W.setCell ⟨w.heap.size+1,i,none⟩ v) W'):CHB w W' f':=by
 have h1:CHB w (W.setCell ⟨w.heap.size+1,i,none⟩ v) f':=by
  refine⟨h.g.setCell (p:=⟨w.heap.size+1,i,none⟩) (by show w.heap.size≤w.heap.size+1;omega) _,?_,(heap_setCell_other W ⟨w.heap.size+1,i,none⟩ (w.heap.size+1+1) v (by show w.heap.size+1+1≠w.heap.size+1;omega)).trans h.z⟩
  have:=heap_setCell_same W (w.heap.size+1) i _ _ v h.x
  rw[hx] at this
  exact this
 exact h1.up g
theorem rchange_v (o k n:Int)(f:FV)(w:World)(hr:f.rd w w.heap.size)(ho:ruleOk o k n=true)(hd:0≤f.dep∧f.dep≤100000) :
  Calls Tryz.prog 74 #[ruV o k n,f.val] w (ChgQ w f (chg o k n f)):=by
 have hm:=hmix
 have HR:=hide hr
 have hrp:=rok_partsG ho
 have HF:=hide (show chg o k n f=chg o k n f from rfl)
 obtain⟨id,kind,x,y,rad,aA,ac,area,dep,sym,sA,sc,secs⟩:=f
 dsimp only at hd
 clear hr ho HF
 go_enter Tryz.func74,Tryz.ntmps74
 by_cases hk:kind=k
 ·subst hk
  have hc:=op_cases o
  rcases hc with rfl|rfl|rfl|rfl|rfl|hno
  ·go_upto_region 11 with fail
   refine wp_name ?_
   intro W1 hW
   have HC:Hid (CHB w W1 ⟨id,kind,x,y,rad,aA,ac,area,dep,sym,sA,sc,secs⟩):=hide (by rw[←hW];exact CHB.new w 1 kind n ⟨id,kind,x,y,rad,aA,ac,area,dep,sym,sA,sc,secs⟩)
   clear hW
   have x0:=blk_cell HC.out.x 0
   have x1:=blk_cell HC.out.x 1
   have x2:=blk_cell HC.out.x 2
   have x3:=blk_cell HC.out.x 3
   have x4:=blk_cell HC.out.x 4
   have x5:=blk_cell HC.out.x 5
   have x6:=blk_cell HC.out.x 6
   have x7:=blk_cell HC.out.x 7
   have x8:=blk_cell HC.out.x 8
   have xl:=blk_lt HC.out.x
   have z0:=blk_cell HC.out.z 0
   have z1:=blk_cell HC.out.z 1
   have z2:=blk_cell HC.out.z 2
   have z3:=blk_cell HC.out.z 3
   have z4:=blk_cell HC.out.z 4
   have z5:=blk_cell HC.out.z 5
   have z6:=blk_cell HC.out.z 6
   have z7:=blk_cell HC.out.z 7
   have z8:=blk_cell HC.out.z 8
   have zf:∀i,W1.frozen? ⟨w.heap.size+1+1,i,none⟩=false:=fun i=>blk_frozen HC.out.z i
   have zl:=blk_lt HC.out.z
   go_wp2_with fail
   refine chg_end HC.out rfl rfl rfl (by first|with_reducible exact Grew.refl _|exact gw) ?_ ?_ ?_
   ·unfold chg
    first
     | (rw[if_neg HK.out];done)
     | (rw[if_pos rfl];rfl)
     | (rw[if_pos rfl];unfold changeF;first|(rw[if_pos rfl,HM.out];done)|(rw[if_neg (by decide),if_pos rfl];done)|(rw[if_neg (by decide),if_neg (by decide),if_neg (by decide)];done))
   ·have h:=HR.out.up (show Grew w (fst9 W1 (w.heap.size+1+1) ⟨id,kind,x,y,rad,aA,ac,area,dep,sym,sA,sc,secs⟩) from set9_grew HC.out.g (by omega))
    exact⟨h.area,h.secs,h.la,h.ls,h.lc⟩
   ·intro g W3 hgl hst hgb
    have h:=hst W3 (gb_trans ((show Grew w (fst9 W1 (w.heap.size+1+1) ⟨id,kind,x,y,rad,aA,ac,area,dep,sym,sA,sc,secs⟩) from set9_grew HC.out.g (by omega)).grownBy _) hgb)
    exact⟨h.area,h.secs,h.la,h.ls,h.lc⟩
  ·have hfm:=fmod_nn hd (hrp.2.2 rfl)
   obtain⟨m,hm2⟩:∃m,dep%n=m:=⟨_,rfl⟩
   have HM:=hide hm2
   rw[hm2] at hfm
   obtain⟨htm,hm0,hm1⟩:=hfm
   have hn1:=hrp.2.2 rfl
   have hn0:¬ n=0:=by omega
   have hw:IntKind.i64.wrap (dep-m)=dep-m:=by unfold IntKind.wrap;simp[IntKind.bits,IntKind.signed];omega
   clear hm2
   go_wp2_with fail
   refine wp_region_qas 9 [] [] hm (h:=?_)
   repeat (refine wpSteady_step (fun K hK=>?_);go_simp;refine hK _ ?_;clear hK K)
   refine rq0 fun nq osq=>?_
   try simp only[Act.put,setA]
   try dsimp only
   go_upto_region 11 with fail
   refine wp_name ?_
   intro W1 hW
   have HC:Hid (CHB w W1 ⟨id,kind,x,y,rad,aA,ac,area,(dep-m),sym,sA,sc,secs⟩):=hide (by rw[←hW];exact (CHB.new w 2 kind n ⟨id,kind,x,y,rad,aA,ac,area,dep-m,sym,sA,sc,secs⟩).up gw)
   clear hW
   have x0:=blk_cell HC.out.x 0
   have x1:=blk_cell HC.out.x 1
   have x2:=blk_cell HC.out.x 2
   have x3:=blk_cell HC.out.x 3
   have x4:=blk_cell HC.out.x 4
   have x5:=blk_cell HC.out.x 5
   have x6:=blk_cell HC.out.x 6
   have x7:=blk_cell HC.out.x 7
   have x8:=blk_cell HC.out.x 8
   have xl:=blk_lt HC.out.x
   have z0:=blk_cell HC.out.z 0
   have z1:=blk_cell HC.out.z 1
   have z2:=blk_cell HC.out.z 2
   have z3:=blk_cell HC.out.z 3
   have z4:=blk_cell HC.out.z 4
   have z5:=blk_cell HC.out.z 5
   have z6:=blk_cell HC.out.z 6
   have z7:=blk_cell HC.out.z 7
   have z8:=blk_cell HC.out.z 8
   have zf:∀i,W1.frozen? ⟨w.heap.size+1+1,i,none⟩=false:=fun i=>blk_frozen HC.out.z i
   have zl:=blk_lt HC.out.z
   go_wp2_with fail
   refine chg_end HC.out rfl rfl rfl (by first|with_reducible exact Grew.refl _|exact gw) ?_ ?_ ?_
   ·unfold chg
    first
     | (rw[if_neg HK.out];done)
     | (rw[if_pos rfl];rfl)
     | (rw[if_pos rfl];unfold changeF;first|(rw[if_pos rfl,HM.out];done)|(rw[if_neg (by decide),if_pos rfl];done)|(rw[if_neg (by decide),if_neg (by decide),if_neg (by decide)];done))
   ·have h:=HR.out.up (show Grew w (fst9 W1 (w.heap.size+1+1) ⟨id,kind,x,y,rad,aA,ac,area,(dep-m),sym,sA,sc,secs⟩) from set9_grew HC.out.g (by omega))
    exact⟨h.area,h.secs,h.la,h.ls,h.lc⟩
   ·intro g W3 hgl hst hgb
    have h:=hst W3 (gb_trans ((show Grew w (fst9 W1 (w.heap.size+1+1) ⟨id,kind,x,y,rad,aA,ac,area,(dep-m),sym,sA,sc,secs⟩) from set9_grew HC.out.g (by omega)).grownBy _) hgb)
    exact⟨h.area,h.secs,h.la,h.ls,h.lc⟩
  ·go_upto_region 11 with fail
   refine wp_name ?_
   intro W1 hW
   have HC:Hid (CHB w W1 ⟨id,kind,x,y,rad,aA,ac,area,dep,sym,sA,sc,secs⟩):=hide (by rw[←hW];exact CHB.new w 3 kind n ⟨id,kind,x,y,rad,aA,ac,area,dep,sym,sA,sc,secs⟩)
   clear hW
   have x0:=blk_cell HC.out.x 0
   have x1:=blk_cell HC.out.x 1
   have x2:=blk_cell HC.out.x 2
   have x3:=blk_cell HC.out.x 3
   have x4:=blk_cell HC.out.x 4
   have x5:=blk_cell HC.out.x 5
   have x6:=blk_cell HC.out.x 6
   have x7:=blk_cell HC.out.x 7
   have x8:=blk_cell HC.out.x 8
   have xl:=blk_lt HC.out.x
   have z0:=blk_cell HC.out.z 0
   have z1:=blk_cell HC.out.z 1
   have z2:=blk_cell HC.out.z 2
   have z3:=blk_cell HC.out.z 3
   have z4:=blk_cell HC.out.z 4
   have z5:=blk_cell HC.out.z 5
   have z6:=blk_cell HC.out.z 6
   have z7:=blk_cell HC.out.z 7
   have z8:=blk_cell HC.out.z 8
   have zf:∀i,W1.frozen? ⟨w.heap.size+1+1,i,none⟩=false:=fun i=>blk_frozen HC.out.z i
   have zl:=blk_lt HC.out.z
   go_wp2_with fail
   refine chg_end HC.out rfl rfl rfl (by first|with_reducible exact Grew.refl _|exact gw) ?_ ?_ ?_
   ·unfold chg
    first
     | (rw[if_neg HK.out];done)
     | (rw[if_pos rfl];rfl)
     | (rw[if_pos rfl];unfold changeF;first|(rw[if_pos rfl,HM.out];done)|(rw[if_neg (by decide),if_pos rfl];done)|(rw[if_neg (by decide),if_neg (by decide),if_neg (by decide)];done))
   ·have h:=HR.out.up (show Grew w (fst9 W1 (w.heap.size+1+1) ⟨id,kind,x,y,rad,aA,ac,area,dep,sym,sA,sc,secs⟩) from set9_grew HC.out.g (by omega))
    exact⟨h.area,h.secs,h.la,h.ls,h.lc⟩
   ·intro g W3 hgl hst hgb
    have h:=hst W3 (gb_trans ((show Grew w (fst9 W1 (w.heap.size+1+1) ⟨id,kind,x,y,rad,aA,ac,area,dep,sym,sA,sc,secs⟩) from set9_grew HC.out.g (by omega)).grownBy _) hgb)
    exact⟨h.area,h.secs,h.la,h.ls,h.lc⟩
  ·go_upto_region 11 with fail
   refine wp_name ?_
   intro W1 hW
   have HC:Hid (CHB w W1 ⟨id,kind,x,y,(max rad n),aA,ac,area,dep,sym,sA,sc,secs⟩):=hide (by rw[←hW];exact CHB.new w 4 kind n ⟨id,kind,x,y,max rad n,aA,ac,area,dep,sym,sA,sc,secs⟩)
   clear hW
   have x0:=blk_cell HC.out.x 0
   have x1:=blk_cell HC.out.x 1
   have x2:=blk_cell HC.out.x 2
   have x3:=blk_cell HC.out.x 3
   have x4:=blk_cell HC.out.x 4
   have x5:=blk_cell HC.out.x 5
   have x6:=blk_cell HC.out.x 6
   have x7:=blk_cell HC.out.x 7
   have x8:=blk_cell HC.out.x 8
   have xl:=blk_lt HC.out.x
   have z0:=blk_cell HC.out.z 0
   have z1:=blk_cell HC.out.z 1
   have z2:=blk_cell HC.out.z 2
   have z3:=blk_cell HC.out.z 3
   have z4:=blk_cell HC.out.z 4
   have z5:=blk_cell HC.out.z 5
   have z6:=blk_cell HC.out.z 6
   have z7:=blk_cell HC.out.z 7
   have z8:=blk_cell HC.out.z 8
   have zf:∀i,W1.frozen? ⟨w.heap.size+1+1,i,none⟩=false:=fun i=>blk_frozen HC.out.z i
   have zl:=blk_lt HC.out.z
   go_wp2_with fail
   refine chg_end HC.out rfl rfl rfl (by first|with_reducible exact Grew.refl _|exact gw) ?_ ?_ ?_
   ·unfold chg
    first
     | (rw[if_neg HK.out];done)
     | (rw[if_pos rfl];rfl)
     | (rw[if_pos rfl];unfold changeF;first|(rw[if_pos rfl,HM.out];done)|(rw[if_neg (by decide),if_pos rfl];done)|(rw[if_neg (by decide),if_neg (by decide),if_neg (by decide)];done))
   ·have h:=HR.out.up (show Grew w (fst9 W1 (w.heap.size+1+1) ⟨id,kind,x,y,(max rad n),aA,ac,area,dep,sym,sA,sc,secs⟩) from set9_grew HC.out.g (by omega))
    exact⟨h.area,h.secs,h.la,h.ls,h.lc⟩
   ·intro g W3 hgl hst hgb
    have h:=hst W3 (gb_trans ((show Grew w (fst9 W1 (w.heap.size+1+1) ⟨id,kind,x,y,(max rad n),aA,ac,area,dep,sym,sA,sc,secs⟩) from set9_grew HC.out.g (by omega)).grownBy _) hgb)
    exact⟨h.area,h.secs,h.la,h.ls,h.lc⟩
  ·have kb:=hide (fun W (hg:Grew w W)=>p3Box_v area aA ac (boxOf area) W ((HR.out.up hg).area) HR.out.la rfl)
   have kr:=hide (fun W=>p3Rect_v (boxOf area).1 W)
   have HCH:Hid (∀A c,({ id:=id,kind:=kind,x:=x,y:=y,rad:=rad,aA:=A,ac:=c,area:=(rectOf (boxOf area).1).1,dep:=dep,sym:=sym,sA:=sA,sc:=sc,secs:=secs }:FV).bare=(chg 5 kind n ⟨id,kind,x,y,rad,aA,ac,area,dep,sym,sA,sc,secs⟩).bare):=hide (fun A c=>by
    unfold chg
    rw[if_pos rfl]
    unfold changeF
    rw[if_neg (by decide),if_neg (by decide),if_pos rfl]
    rfl)
   have hrl:=rect_len (boxOf area).1
   generalize boxOf area=bx at *
   go_wp2_with (go_at_call 112;with_reducible refine crv (kb.out _ gw) fun _ _=>?_;dsimp only)
   refine calls_nm ?_
   intro X hX
   have HC0:Hid (CHB w X ⟨id,kind,x,y,rad,aA,ac,area,dep,sym,sA,sc,secs⟩):=hide (by rw[←hX];exact (CHB.new w 5 kind n ⟨id,kind,x,y,rad,aA,ac,area,dep,sym,sA,sc,secs⟩).up gw)
   clear hX kb
   refine (kr.out X).mono ?_
   rintro e W1 ⟨v,rfl,hown,hg1⟩
   have HC:Hid (CHB w W1 ⟨id,kind,x,y,rad,aA,ac,area,dep,sym,sA,sc,secs⟩):=hide (HC0.out.up hg1)
   have hX3:w.heap.size+1+1<X.heap.size:=blk_lt HC0.out.z
   obtain⟨A',c',rfl,hc',hrd'⟩:=Rd.of_own encD_len hown rfl
   have HO:=hide hown
   clear hown hg1 hrd' kr
   dsimp only
   generalize (rectOf bx.1).2=er at *
   generalize (rectOf bx.1).1=rs at *
   have x0:=blk_cell HC.out.x 0
   have x1:=blk_cell HC.out.x 1
   have x2:=blk_cell HC.out.x 2
   have x3:=blk_cell HC.out.x 3
   have x4:=blk_cell HC.out.x 4
   have x5:=blk_cell HC.out.x 5
   have x6:=blk_cell HC.out.x 6
   have x7:=blk_cell HC.out.x 7
   have x8:=blk_cell HC.out.x 8
   have xl:=blk_lt HC.out.x
   have z0:=blk_cell HC.out.z 0
   have z1:=blk_cell HC.out.z 1
   have z2:=blk_cell HC.out.z 2
   have z3:=blk_cell HC.out.z 3
   have z4:=blk_cell HC.out.z 4
   have z5:=blk_cell HC.out.z 5
   have z6:=blk_cell HC.out.z 6
   have z7:=blk_cell HC.out.z 7
   have z8:=blk_cell HC.out.z 8
   have zf:∀i,W1.frozen? ⟨w.heap.size+1+1,i,none⟩=false:=fun i=>blk_frozen HC.out.z i
   have zl:=blk_lt HC.out.z
   have xf:W1.frozen? ⟨w.heap.size+1,5,none⟩=false:=blk_frozen HC.out.x 5
   go_upto_region 11 with fail
   refine wp_name ?_
   intro W2 hW
   have HC2:Hid (CHB w W2 ⟨id,kind,x,y,rad,A',c',rs,dep,sym,sA,sc,secs⟩):=hide (by rw[←hW];exact CHB.set HC.out 5 (.slice A' rs.length c') rfl (by first|with_reducible exact Grew.refl _|exact gw))
   have HO2:Hid (W2.ownsRow X.heap.size 26 2 (.slice A' rs.length c') rs.length (rs.flatMap encD)):=hide (by rw[←hW];first|with_reducible exact ownsRow_setCell_below HO.out (by show w.heap.size+1<_;omega) _|exact fown_grew (ownsRow_setCell_below HO.out (by show w.heap.size+1<_;omega) _) gw)
   clear hW x0 x1 x2 x3 x4 x5 x6 x7 x8 xl z0 z1 z2 z3 z4 z5 z6 z7 z8 zf zl xf HO HC HC0
   have HC:=HC2
   obtain⟨W1,hW1⟩:∃W,W=W2:=⟨_,rfl⟩
   subst hW1
   have x0:=blk_cell HC.out.x 0
   have x1:=blk_cell HC.out.x 1
   have x2:=blk_cell HC.out.x 2
   have x3:=blk_cell HC.out.x 3
   have x4:=blk_cell HC.out.x 4
   have x5:=blk_cell HC.out.x 5
   have x6:=blk_cell HC.out.x 6
   have x7:=blk_cell HC.out.x 7
   have x8:=blk_cell HC.out.x 8
   have xl:=blk_lt HC.out.x
   have z0:=blk_cell HC.out.z 0
   have z1:=blk_cell HC.out.z 1
   have z2:=blk_cell HC.out.z 2
   have z3:=blk_cell HC.out.z 3
   have z4:=blk_cell HC.out.z 4
   have z5:=blk_cell HC.out.z 5
   have z6:=blk_cell HC.out.z 6
   have z7:=blk_cell HC.out.z 7
   have z8:=blk_cell HC.out.z 8
   have zf:∀i,W1.frozen? ⟨w.heap.size+1+1,i,none⟩=false:=fun i=>blk_frozen HC.out.z i
   have zl:=blk_lt HC.out.z
   go_wp2_with fail
   refine chg_end HC.out rfl rfl rfl (by first|with_reducible exact Grew.refl _|exact gw) (HCH.out A' c') ?_ ?_
   ·have h:=HR.out.up (show Grew w (fst9 W1 (w.heap.size+1+1) ⟨id,kind,x,y,rad,A',c',rs,dep,sym,sA,sc,secs⟩) from set9_grew HC.out.g (by omega))
    obtain⟨A2,c2,he,_,hr2⟩:=Rd.of_own (f:=encD) encD_len (own_set9 HO2.out hX3) rfl
    have hA:A'=A2:=by injection he
    rw[←hA] at hr2
    exact⟨hr2,h.secs,by show rs.length≤_;omega,h.ls,h.lc⟩
   ·intro g W3 hgl hst hgb
    have h:=hst W3 (gb_trans ((show Grew w (fst9 W1 (w.heap.size+1+1) ⟨id,kind,x,y,rad,A',c',rs,dep,sym,sA,sc,secs⟩) from set9_grew HC.out.g (by omega)).grownBy _) hgb)
    have ho:=own_set9 (v0:=.int .i64 id) (v1:=.int .i64 kind) (v2:=.int .i64 x) (v3:=.int .i64 y) (v4:=.int .i64 rad) (v5:=.slice A' rs.length c') (v6:=.int .i64 dep) (v7:=.int .i64 sym) (v8:=.slice sA secs.length sc) HO2.out hX3
    have hk:=ho.kept hgb (.inr (by
     intro e
     have:=ho.lt g e
     omega))
    obtain⟨A2,c2,he,_,hr2⟩:=Rd.of_own (f:=encD) encD_len hk rfl
    have hA:A'=A2:=by injection he
    rw[←hA] at hr2
    exact⟨hr2,h.secs,by show rs.length≤_;omega,h.ls,h.lc⟩
  ·exfalso
   have:=hrp.1
   omega
 ·have hk1:(kind != k)=true:=by simpa using hk
  have hk2:(kind==k)=false:=by simpa using hk
  have HK:=hide hk
  clear hk
  go_upto_region 2 with fail
  refine wp_name ?_
  intro W1 hW
  have HC:Hid (CHB w W1 ⟨id,kind,x,y,rad,aA,ac,area,dep,sym,sA,sc,secs⟩):=hide (by rw[←hW];exact CHB.new w o k n ⟨id,kind,x,y,rad,aA,ac,area,dep,sym,sA,sc,secs⟩)
  clear hW
  have x0:=blk_cell HC.out.x 0
  have x1:=blk_cell HC.out.x 1
  have x2:=blk_cell HC.out.x 2
  have x3:=blk_cell HC.out.x 3
  have x4:=blk_cell HC.out.x 4
  have x5:=blk_cell HC.out.x 5
  have x6:=blk_cell HC.out.x 6
  have x7:=blk_cell HC.out.x 7
  have x8:=blk_cell HC.out.x 8
  have xl:=blk_lt HC.out.x
  have z0:=blk_cell HC.out.z 0
  have z1:=blk_cell HC.out.z 1
  have z2:=blk_cell HC.out.z 2
  have z3:=blk_cell HC.out.z 3
  have z4:=blk_cell HC.out.z 4
  have z5:=blk_cell HC.out.z 5
  have z6:=blk_cell HC.out.z 6
  have z7:=blk_cell HC.out.z 7
  have z8:=blk_cell HC.out.z 8
  have zf:∀i,W1.frozen? ⟨w.heap.size+1+1,i,none⟩=false:=fun i=>blk_frozen HC.out.z i
  have zl:=blk_lt HC.out.z
  go_wp2_with fail
  refine chg_end HC.out rfl rfl rfl (by first|with_reducible exact Grew.refl _|exact gw) ?_ ?_ ?_
  ·unfold chg
   first
    | (rw[if_neg HK.out];done)
    | (rw[if_pos rfl];rfl)
    | (rw[if_pos rfl];unfold changeF;first|(rw[if_pos rfl,HM.out];done)|(rw[if_neg (by decide),if_pos rfl];done)|(rw[if_neg (by decide),if_neg (by decide),if_neg (by decide)];done))
  ·have h:=HR.out.up (show Grew w (fst9 W1 (w.heap.size+1+1) ⟨id,kind,x,y,rad,aA,ac,area,dep,sym,sA,sc,secs⟩) from set9_grew HC.out.g (by omega))
   exact⟨h.area,h.secs,h.la,h.ls,h.lc⟩
  ·intro g W3 hgl hst hgb
   have h:=hst W3 (gb_trans ((show Grew w (fst9 W1 (w.heap.size+1+1) ⟨id,kind,x,y,rad,aA,ac,area,dep,sym,sA,sc,secs⟩) from set9_grew HC.out.g (by omega)).grownBy _) hgb)
   exact⟨h.area,h.secs,h.la,h.ls,h.lc⟩
set_option maxHeartbeats 16000000
set_option maxRecDepth 100000
def shB (f g:FV):Bool:=decide (f.dep<g.dep∨(f.dep=g.dep∧f.id<g.id))
theorem rshoaler_v (f g:FV)(r:Bool)(w:World)(h:shB f g=r):Calls Tryz.prog 152 #[f.val,g.val] w (Ret w (.bool r)):=by
 unfold shB at h
 obtain⟨id,kind,x,y,rad,aA,ac,area,dep,sym,sA,sc,secs⟩:=f
 obtain⟨id',kind',x',y',rad',aA',ac',area',dep',sym',sA',sc',secs'⟩:=g
 dsimp only at h
 subst h
 by_cases h1:dep<dep'
 ·go_enter Tryz.func152,Tryz.ntmps152
  go_wp2
  all_goals go_ret
  all_goals exact Ret.mk' (ret_bool (by simp[h1])) gw
 ·by_cases h2:dep=dep'
  ·subst h2
   go_enter Tryz.func152,Tryz.ntmps152
   go_wp2
   all_goals go_ret
   all_goals exact Ret.mk' (ret_bool (by simp)) gw
  ·have h3:(dep==dep')=false:=by simpa using h2
   go_enter Tryz.func152,Tryz.ntmps152
   go_wp2
   all_goals go_ret
   all_goals exact Ret.mk' (ret_bool (by simp[h1,h2])) gw
/-- A feature put into a list by depth, then by ID. -/
def insD (x:FV)(l:List FV):List FV:=l.takeWhile (fun y=>shB y x)++x::l.dropWhile (fun y=>shB y x)
def byD (fs:List FV):List FV:=fs.foldl (fun l x=>insD x l) []
theorem byD_succ {fs:List FV}{k:Nat}(h:k<fs.length):byD (fs.take (k+1))=insD (fAt fs k) (byD (fs.take k)):=by
 unfold byD
 rw[List.take_add_one,fAt_get h,List.foldl_append]
 rfl
theorem insD_len (x:FV)(l:List FV):(insD x l).length=l.length+1:=by
 unfold insD
 have:=congrArg List.length (List.takeWhile_append_dropWhile (p:=fun y=>shB y x) (l:=l))
 rw[List.length_append] at this
 rw[List.length_append,List.length_cons]
 omega
theorem byD_len:∀ (fs:List FV),(byD fs).length=fs.length:=by
 intro fs
 have:∀ (fs l:List FV),(fs.foldl (fun l x=>insD x l) l).length=l.length+fs.length:=by
  intro fs
  induction fs with
  | nil=>intro l;simp
  | cons a fs ih=>intro l;rw[List.foldl_cons,ih,insD_len,List.length_cons];omega
 unfold byD
 rw[this]
 simp
theorem tw_lt {p:FV→Bool}{l:List FV}{m:Nat}(h:m<(l.takeWhile p).length):m<l.length∧p (fAt l m)=true:=by
 have hp:=List.takeWhile_prefix p (l:=l)
 have hl:=hp.length_le
 refine⟨by omega,?_⟩
 have e:(l.takeWhile p)[m]?=l[m]?:=by
  obtain⟨t,ht⟩:=hp
  conv=>rhs;rw[←ht]
  rw[List.getElem?_append_left h]
 have hm:(l.takeWhile p)[m]?=some (fAt l m):=by rw[e];exact fAt_get (by omega)
 have:=List.mem_of_getElem? hm
 exact List.all_eq_true.1 List.all_takeWhile _ this
theorem tw_stop {p:FV→Bool}{l:List FV}(h:(l.takeWhile p).length<l.length):p (fAt l (l.takeWhile p).length)=false:=by
 have hd:=List.takeWhile_append_dropWhile (p:=p) (l:=l)
 have e:(l.takeWhile p++l.dropWhile p)[(l.takeWhile p).length]?=(l.dropWhile p)[0]?:=by
  rw[List.getElem?_append_right (Nat.le_refl _),Nat.sub_self]
 rw[hd] at e
 rw[fAt_get h] at e
 have:=List.head?_dropWhile_not (p:=p) (l:=l)
 cases hw:l.dropWhile p with
 | nil=>rw[hw] at e;cases e
 | cons c r =>
  rw[hw] at e this
  injection e with e
  rw[e]
  simpa using this
theorem ins_eq (x:FV)(l:List FV):insD x l=l.take (l.takeWhile fun y=>shB y x).length++x::l.drop (l.takeWhile fun y=>shB y x).length:=by
 have hd:=List.takeWhile_append_dropWhile (p:=fun y=>shB y x) (l:=l)
 unfold insD
 congr 1
 ·conv=>rhs;arg 2;rw[←hd]
  rw[List.take_left' rfl]
 ·congr 1
  conv=>rhs;arg 2;rw[←hd]
  rw[List.drop_left' rfl]
theorem rbyDepth_v (fs:List FV)(A:Option Addr)(c:Nat)(w:World)(hr:Rd w w.heap.size 9 A (fs.map FV.cells))(hl:fs.length≤300) :
  Calls Tryz.prog 110 #[.slice A fs.length c] w (ThinP w (byD fs)):=by
 have hm:=hmix
 obtain⟨i0,hi,hz0,hz1,hz2⟩:=fInfo_parts feInf
 have HR:=hide hr
 clear hr
 go_enter Tryz.func110,Tryz.ntmps110
 go_wp2_with fail
 go_loopw [3,4] (fun v i wr=>∃q:Nat,q≤fs.length∧i=.int .i64 q∧Grew w wr∧wr.ownsRow w.heap.size 54 9 v (byD (fs.take q)).length ((byD (fs.take q)).flatMap FV.cells)) (fun _ i _=>fs.length-(intOf i).toNat)
 case atStart=>exact⟨0,by omega,rfl,gw,World.ownsRow_nil _ _ _ _⟩
 case round =>
  obtain⟨q,hq,rfl,hg,hown⟩:=hrel
  have HG:=hide hg
  by_cases hlt:q<fs.length
  ·have hst:=byD_succ hlt
   have hll:=byD_len (fs.take q)
   rw[List.length_take,Nat.min_eq_left hq] at hll
   obtain⟨L,hL⟩:∃L,byD (fs.take q)=L:=⟨_,rfl⟩
   rw[hL] at hown hst hll
   obtain⟨x,hx⟩:∃x,fAt fs q=x:=⟨_,rfl⟩
   have HX:=hide hx
   rw[hx] at hst
   obtain⟨AL,cL,rfl,_,hrdL⟩:=Rd.of_own fv_len hown rfl
   have HOL:=hide hown
   have HRL:=hide hrdL
   obtain⟨mk,hmk⟩:∃mk,(L.takeWhile fun y=>shB y x).length=mk:=⟨_,rfl⟩
   have hins:=ins_eq x L
   rw[hmk] at hins
   have HST:=hide (hst.trans hins)
   have hmkl:mk≤L.length:=by rw[←hmk];exact (List.takeWhile_prefix _).length_le
   have HMK:=hide hmk
   obtain⟨Wr,hWr⟩:∃W,W=wr:=⟨wr,rfl⟩
   subst hWr
   have hl3:L.length≤300:=by omega
   have HLL:=hide hll
   clear hg hown hL hx hst hrdL hins hmk hll
   go_wp2_with fail
   go_loopw [5,6] (fun v k wr=>∃m:Nat,m≤mk∧k=.int .i64 m∧Grew Wr wr∧wr.ownsRow Wr.heap.size 54 9 v m ((L.take m).flatMap FV.cells)) (fun _ k _=>mk-(intOf k).toNat)
   case atStart=>exact⟨0,by omega,rfl,gw,World.ownsRow_nil _ _ _ _⟩
   case round =>
    obtain⟨m,hmm,rfl,hg,hown⟩:=hrel
    have HG1:=hide hg
    have HO:=hide hown
    obtain⟨An,cn,rfl,_⟩:=fown_slice hown
    obtain⟨b1,off1,hA1,hb1,fx⟩:=rowAt (HR.out.up (HG.out.trans hg)) hlt
    have hix1:=idx_run (cap:=c) Tryz.underlying22 Tryz.sizeOf54 hA1.out hlt
    rw[HX.out] at fx
    obtain⟨c0,c1,c2,c3,c4,c5,c6,c7,c8⟩:=fx
    clear hg hown hA1
    by_cases hlt2:m<mk
    ·have hml:m<L.length:=by omega
     have hmd:=decide_eq_true hml
     have hsh:shB (fAt L m) x=true:=(tw_lt (p:=fun y=>shB y x) (l:=L) (m:=m) (by rw[HMK.out];exact hlt2)).2
     obtain⟨b2,off2,hA2,hb2,fy⟩:=rowAt (HRL.out.up HG1.out) hml
     have hix2:=idx_run (cap:=cL) (k:=m) (len:=L.length) Tryz.underlying22 Tryz.sizeOf54 hA2.out hml
     have hgt:=fAt_get hml
     obtain⟨y,hy⟩:∃y,fAt L m=y:=⟨_,rfl⟩
     rw[hy] at fy hsh hgt
     have ks:=hide (fun W=>rshoaler_v y x true W hsh)
     have HGT:=hide hgt
     obtain⟨d0,d1,d2,d3,d4,d5,d6,d7,d8⟩:=fy
     clear hsh hy hA2 hgt
     go_wp2_with fail
     refine wp_region_qas 15 [] [] hm (h:=?_)
     repeat (refine wpSteady_step (fun K hK=>?_);go_simp;first|(refine hK _ ?_;clear hK K)|(apply Exists.intro;refine⟨fun _=>?_,hK _ ?_⟩;((go_at_call 152;with_reducible exact ks.out _));clear hK K))
     refine rq0 fun nq osq=>?_
     try simp only[Act.put,setA]
     try dsimp only
     go_wp2_with (at_builtin;refine AppG3.stop ?_)
     refine AppG3.go ?_
     refine wpList_append_any _ rfl (.tmp 28) (.tmp 33) _ rfl Wr.heap.size 54 i0 _ 9 104 Tryz.underlying22 hi hz0 hz1 hz2 rfl (by omega) _ m ((L.take m).flatMap FV.cells) rfl (fown_grew HO.out gw) _ (some ⟨_,0,none⟩) 1 1 ([y].flatMap FV.cells) rfl ((Rd.lit1 _ y _ (by simp[hs_dr])).reads fv_len (by omega)) (fv_one _) (by simp only[maxLen];omega) (by omega) (by have:=HG1.out.below.size;simp[hs_dr];omega) ?_
     intro v' w1 hown1 hg1 _
     have HG2:Hid (Grew Wr w1):=hide (ggrown (HG1.out.trans gw) (fown_grew HO.out gw) (Nat.le_refl _) hg1)
     have HO1:Hid (w1.ownsRow Wr.heap.size 54 9 v' (m+1) ((L.take (m+1)).flatMap FV.cells)):=hide (by
      rw[List.take_add_one,HGT.out,List.flatMap_append]
      exact hown1)
     clear hown1 hg1
     go_wp2_with fail
     go_roundw
     case rel=>exact⟨m+1,by omega,by go_num,HG2.out.trans gw,fown_grew HO1.out gw⟩
     case measure=>simp[intOf];omega
    ·obtain rfl:m=mk:=by omega
     have hfin:Hid (L.take m++[x]++(L.drop m).take (L.length-m)=byD (fs.take (q+1))):=hide (by
      have e:(L.drop m).take (L.length-m)=L.drop m:=List.take_of_length_le (by rw[List.length_drop];exact Nat.le_refl _)
      rw[HST.out,List.append_assoc,e]
      rfl)
     by_cases hml:m<L.length
     ·have hsh:shB (fAt L m) x=false:=by
       have:=tw_stop (p:=fun y=>shB y x) (l:=L) (by rw[HMK.out];exact hml)
       rw[HMK.out] at this
       exact this
      have hmd:=decide_eq_true hml
      obtain⟨b2,off2,hA2,hb2,fy⟩:=rowAt (HRL.out.up HG1.out) hml
      have hix2:=idx_run (cap:=cL) (k:=m) (len:=L.length) Tryz.underlying22 Tryz.sizeOf54 hA2.out hml
      obtain⟨y,hy⟩:∃y,fAt L m=y:=⟨_,rfl⟩
      rw[hy] at fy hsh
      have ks:=hide (fun W=>rshoaler_v y x false W hsh)
      obtain⟨d0,d1,d2,d3,d4,d5,d6,d7,d8⟩:=fy
      clear hsh hy hA2
      go_wp2_with fail
      refine wp_region_qas 15 [] [] hm (h:=?_)
      repeat (refine wpSteady_step (fun K hK=>?_);go_simp;first|(refine hK _ ?_;clear hK K)|(apply Exists.intro;refine⟨fun _=>?_,hK _ ?_⟩;((go_at_call 152;with_reducible exact ks.out _));clear hK K))
      refine rq0 fun nq osq=>?_
      try simp only[Act.put,setA]
      try dsimp only
      go_wp2_with (at_builtin;refine AppG3.stop ?_)
      refine AppG3.go ?_
      refine wpList_append_any _ rfl (.tmp 37) (.tmp 42) _ rfl Wr.heap.size 54 i0 _ 9 104 Tryz.underlying22 hi hz0 hz1 hz2 rfl (by omega) _ m ((L.take m).flatMap FV.cells) rfl (fown_grew HO.out gw) _ (some ⟨_,0,none⟩) 1 1 ([x].flatMap FV.cells) rfl ((Rd.lit1 _ x _ (by simp[hs_dr])).reads fv_len (by omega)) (fv_one _) (by simp only[maxLen];omega) (by omega) (by have:=HG1.out.below.size;simp[hs_dr];omega) ?_
      intro v' w1 hown1 hg1 _
      have HG2:Hid (Grew Wr w1):=hide (ggrown (HG1.out.trans gw) (fown_grew HO.out gw) (Nat.le_refl _) hg1)
      have HO1:Hid (w1.ownsRow Wr.heap.size 54 9 v' (m+1) ((L.take m++[x]++(L.drop m).take 0).flatMap FV.cells)):=hide (by
       rw[List.take_zero,List.append_nil,List.flatMap_append]
       exact hown1)
      clear hown1 hg1
      go_wp2_with fail
      go_loopw [5,6] (fun v k wr=>∃p:Nat,m≤p∧p≤L.length∧k=.int .i64 p∧Grew Wr wr∧wr.ownsRow Wr.heap.size 54 9 v (p+1) ((L.take m++[x]++(L.drop m).take (p-m)).flatMap FV.cells)) (fun _ k _=>L.length-(intOf k).toNat)
      case atStart=>exact⟨m,Nat.le_refl _,hmkl,rfl,HG2.out.trans gw,by rw[Nat.sub_self];exact fown_grew HO1.out gw⟩
      case round =>
       obtain⟨p,hmp,hpl,rfl,hg,hown⟩:=hrel
       have HG3:=hide hg
       have HO3:=hide hown
       obtain⟨An,cn,rfl,_⟩:=fown_slice hown
       clear hg hown
       by_cases hlt3:p<L.length
       ·obtain⟨b2,off2,hA2,hb2,fy⟩:=rowAt (HRL.out.up HG3.out) hlt3
        have hix2:=idx_run (cap:=cL) (k:=p) (len:=L.length) Tryz.underlying22 Tryz.sizeOf54 hA2.out hlt3
        have hgt:=fAt_get hlt3
        obtain⟨y,hy⟩:∃y,fAt L p=y:=⟨_,rfl⟩
        rw[hy] at fy hgt
        have HGT:=hide hgt
        obtain⟨d0,d1,d2,d3,d4,d5,d6,d7,d8⟩:=fy
        clear hy hA2 hgt
        go_wp2_with (at_builtin;refine AppG3.stop ?_)
        refine AppG3.go ?_
        refine wpList_append_any _ rfl (.tmp 48) (.tmp 53) _ rfl Wr.heap.size 54 i0 _ 9 104 Tryz.underlying22 hi hz0 hz1 hz2 rfl (by omega) _ (p+1) _ rfl (fown_grew HO3.out gw) _ (some ⟨_,0,none⟩) 1 1 ([y].flatMap FV.cells) rfl ((Rd.lit1 _ y _ (by simp[hs_dr])).reads fv_len (by omega)) (fv_one _) (by simp only[maxLen];omega) (by omega) (by have:=HG3.out.below.size;simp[hs_dr];omega) ?_
        intro v2 w2 hown2 hg2 _
        have HG4:Hid (Grew Wr w2):=hide (ggrown (HG3.out.trans gw) (fown_grew HO3.out gw) (Nat.le_refl _) hg2)
        have HO4:Hid (w2.ownsRow Wr.heap.size 54 9 v2 (p+1+1) ((L.take m++[x]++(L.drop m).take (p+1-m)).flatMap FV.cells)):=hide (by
         rw[show p+1-m=(p-m)+1 by omega,List.take_add_one,List.getElem?_drop,show m+(p-m)=p by omega,HGT.out,←List.append_assoc,List.flatMap_append]
         exact hown2)
        clear hown2 hg2
        go_wp2_with fail
        go_roundw
        case rel=>exact⟨p+1,by omega,by omega,by go_num,HG4.out.trans gw,fown_grew HO4.out gw⟩
        case measure=>simp[intOf];omega
       ·obtain rfl:p=L.length:=by omega
        have HO5:Hid (wr.ownsRow w.heap.size 54 9 (.slice An (L.length+1) cn) (byD (fs.take (q+1))).length ((byD (fs.take (q+1))).flatMap FV.cells)):=hide (by
         have h:=own_mono HO3.out HG.out.below.size
         rw[hfin.out] at h
         have hlen:(byD (fs.take (q+1))).length=L.length+1:=by rw[byD_len,List.length_take,Nat.min_eq_left (by omega),HLL.out]
         rw[hlen]
         exact h)
        go_wp2_with fail
        go_roundw
        case rel=>exact⟨q+1,by omega,by go_num,HG.out.trans (HG3.out.trans gw),fown_grew HO5.out gw⟩
        case measure=>simp[intOf];omega
     ·have hmd:=decide_eq_false hml
      go_wp2_with fail
      refine wp_region_qas 15 [] [] hm (h:=?_)
      repeat (refine wpSteady_step (fun K hK=>?_);go_simp;refine hK _ ?_;clear hK K)
      refine rq0 fun nq osq=>?_
      try simp only[Act.put,setA]
      try dsimp only
      clear hml hmd
      go_wp2_with (at_builtin;refine AppG3.stop ?_)
      refine AppG3.go ?_
      refine wpList_append_any _ rfl (.tmp 37) (.tmp 42) _ rfl Wr.heap.size 54 i0 _ 9 104 Tryz.underlying22 hi hz0 hz1 hz2 rfl (by omega) _ m ((L.take m).flatMap FV.cells) rfl (fown_grew HO.out gw) _ (some ⟨_,0,none⟩) 1 1 ([x].flatMap FV.cells) rfl ((Rd.lit1 _ x _ (by simp[hs_dr])).reads fv_len (by omega)) (fv_one _) (by simp only[maxLen];omega) (by omega) (by have:=HG1.out.below.size;simp[hs_dr];omega) ?_
      intro v' w1 hown1 hg1 _
      have HG2:Hid (Grew Wr w1):=hide (ggrown (HG1.out.trans gw) (fown_grew HO.out gw) (Nat.le_refl _) hg1)
      have HO1:Hid (w1.ownsRow Wr.heap.size 54 9 v' (m+1) ((L.take m++[x]++(L.drop m).take 0).flatMap FV.cells)):=hide (by
       rw[List.take_zero,List.append_nil,List.flatMap_append]
       exact hown1)
      clear hown1 hg1
      go_wp2_with fail
      go_loopw [5,6] (fun v k wr=>∃p:Nat,m≤p∧p≤L.length∧k=.int .i64 p∧Grew Wr wr∧wr.ownsRow Wr.heap.size 54 9 v (p+1) ((L.take m++[x]++(L.drop m).take (p-m)).flatMap FV.cells)) (fun _ k _=>L.length-(intOf k).toNat)
      case atStart=>exact⟨m,Nat.le_refl _,hmkl,rfl,HG2.out.trans gw,by rw[Nat.sub_self];exact fown_grew HO1.out gw⟩
      case round =>
       obtain⟨p,hmp,hpl,rfl,hg,hown⟩:=hrel
       have HG3:=hide hg
       have HO3:=hide hown
       obtain⟨An,cn,rfl,_⟩:=fown_slice hown
       clear hg hown
       by_cases hlt3:p<L.length
       ·obtain⟨b2,off2,hA2,hb2,fy⟩:=rowAt (HRL.out.up HG3.out) hlt3
        have hix2:=idx_run (cap:=cL) (k:=p) (len:=L.length) Tryz.underlying22 Tryz.sizeOf54 hA2.out hlt3
        have hgt:=fAt_get hlt3
        obtain⟨y,hy⟩:∃y,fAt L p=y:=⟨_,rfl⟩
        rw[hy] at fy hgt
        have HGT:=hide hgt
        obtain⟨d0,d1,d2,d3,d4,d5,d6,d7,d8⟩:=fy
        clear hy hA2 hgt
        go_wp2_with (at_builtin;refine AppG3.stop ?_)
        refine AppG3.go ?_
        refine wpList_append_any _ rfl (.tmp 48) (.tmp 53) _ rfl Wr.heap.size 54 i0 _ 9 104 Tryz.underlying22 hi hz0 hz1 hz2 rfl (by omega) _ (p+1) _ rfl (fown_grew HO3.out gw) _ (some ⟨_,0,none⟩) 1 1 ([y].flatMap FV.cells) rfl ((Rd.lit1 _ y _ (by simp[hs_dr])).reads fv_len (by omega)) (fv_one _) (by simp only[maxLen];omega) (by omega) (by have:=HG3.out.below.size;simp[hs_dr];omega) ?_
        intro v2 w2 hown2 hg2 _
        have HG4:Hid (Grew Wr w2):=hide (ggrown (HG3.out.trans gw) (fown_grew HO3.out gw) (Nat.le_refl _) hg2)
        have HO4:Hid (w2.ownsRow Wr.heap.size 54 9 v2 (p+1+1) ((L.take m++[x]++(L.drop m).take (p+1-m)).flatMap FV.cells)):=hide (by
         rw[show p+1-m=(p-m)+1 by omega,List.take_add_one,List.getElem?_drop,show m+(p-m)=p by omega,HGT.out,←List.append_assoc,List.flatMap_append]
         exact hown2)
        clear hown2 hg2
        go_wp2_with fail
        go_roundw
        case rel=>exact⟨p+1,by omega,by omega,by go_num,HG4.out.trans gw,fown_grew HO4.out gw⟩
        case measure=>simp[intOf];omega
       ·obtain rfl:p=L.length:=by omega
        have HO5:Hid (wr.ownsRow w.heap.size 54 9 (.slice An (L.length+1) cn) (byD (fs.take (q+1))).length ((byD (fs.take (q+1))).flatMap FV.cells)):=hide (by
         have h:=own_mono HO3.out HG.out.below.size
         rw[hfin.out] at h
         have hlen:(byD (fs.take (q+1))).length=L.length+1:=by rw[byD_len,List.length_take,Nat.min_eq_left (by omega),HLL.out]
         rw[hlen]
         exact h)
        go_wp2_with fail
        go_roundw
        case rel=>exact⟨q+1,by omega,by go_num,HG.out.trans (HG3.out.trans gw),fown_grew HO5.out gw⟩
        case measure=>simp[intOf];omega
  ·obtain rfl:q=fs.length:=by omega
   rw[List.take_length] at hown
   obtain⟨AL,cL,rfl,hcl,hrdL⟩:=Rd.of_own fv_len hown rfl
   have HRL:=hide hrdL
   clear hown hrdL hg
   go_wp2_with fail
   go_ret
   exact⟨AL,cL,rfl,HRL.out.up gw,HG.out.trans gw,hcl⟩
/-- A feature that a thinning joins, in the reference's words. -/
def rnearF (n:Int)(f g:FV):Bool:=decide (dt (g.x,g.y) (f.x,f.y) (f.x,f.y)≤n*n)
def rliesF (f g:FV):Bool:=liesB (f.x,f.y) f.rad (g.x,g.y) g.rad
def rhiF (f g:FV):Int:=(distOf (f.x,f.y) (g.x,g.y)).1.2
def rjoinF (f g:FV):FV:=if rliesF f g=true then g else { g with rad:=rhiF f g+f.rad }
def rkStep (n:Int)(kept:List FV)(f:FV):List FV:=match kept.findIdx? (rnearF n f) with|none=>kept++[f]|some k=>kept.set k (rjoinF f (fAt kept k))
def rkTo (n:Int)(ds:List FV)(m:Nat):List FV:=(ds.take m).foldl (rkStep n) []
def rkOf (k n:Int)(fs:List FV):List FV:=rkTo n (byD (fs.filter (isKind k))) (byD (fs.filter (isKind k))).length
theorem rkTo_succ {n:Int}{ds:List FV}{m:Nat}(h:m<ds.length):rkTo n ds (m+1)=rkStep n (rkTo n ds m) (fAt ds m):=by
 unfold rkTo
 rw[List.take_add_one,fAt_get h,List.foldl_append]
 rfl
theorem rstep_none {n:Int}{kept:List FV}{f:FV}(h:∀m,m<kept.length→rnearF n f (fAt kept m)=false):rkStep n kept f=kept++[f]:=by
 unfold rkStep
 rw[List.findIdx?_eq_none_iff.2 (fun x hx=>?_)]
 obtain⟨m,hm,e⟩:=List.getElem_of_mem hx
 have a:=fAt_get hm
 rw[List.getElem?_eq_getElem hm,e] at a
 injection a with a
 rw[a]
 exact h m hm
theorem rstep_some {n:Int}{kept:List FV}{f:FV}{k:Nat}(hk:k<kept.length)(h1:rnearF n f (fAt kept k)=true)(h2:∀m,m<k→rnearF n f (fAt kept m)=false):rkStep n kept f=kept.set k (rjoinF f (fAt kept k)):=by
 unfold rkStep
 have e:∀m,(h:m<kept.length)→kept[m]=fAt kept m:=fun m h=>by
  have a:=fAt_get h
  rw[List.getElem?_eq_getElem h] at a
  injection a
 have:kept.findIdx? (rnearF n f)=some k:=by
  rw[List.findIdx?_eq_some_iff_getElem]
  refine⟨hk,by rw[e k hk];exact h1,fun j hj=>?_⟩
  rw[e j (by omega),h2 j hj]
  decide
 rw[this]
theorem rstep_len (n:Int)(kept:List FV)(f:FV):(rkStep n kept f).length≤kept.length+1:=by
 unfold rkStep
 split
 ·simp
 ·simp
theorem rk_len {n:Int}{ds:List FV}:∀m,m≤ds.length→(rkTo n ds m).length≤m
 | 0,_=>by simp[rkTo]
 | m+1,h=>by
  have ih:=rk_len (n:=n) (ds:=ds) m (by omega)
  have:=rstep_len n (rkTo n ds m) (fAt ds m)
  rw[rkTo_succ (by omega)]
  omega
/-- What holds of what is kept. -/
def RKept (g:FV):Prop:=plOk g.x g.y=true∧0≤g.rad∧g.rad≤3000000
theorem root_le {n:Int}(h0:0≤n)(h:n≤8000000000000):rootOf n≤2828427:=by
 obtain⟨h1,_,h3,_⟩:=root_spec n h0 (by omega)
 rcases Int.lt_or_le 2828427 (rootOf n) with hc|hc
 ·have:=Int.mul_le_mul (show (2828428:Int)≤rootOf n by omega) (show (2828428:Int)≤rootOf n by omega) (by omega) h1
  omega
 ·exact hc
theorem rhi_bd {f g:FV}(hf:plOk f.x f.y=true)(hg:plOk g.x g.y=true):0≤rhiF f g∧rhiF f g≤2828428:=by
 have hd:=dt_bd (a:=(f.x,f.y)) (b:=(g.x,g.y)) (c:=(g.x,g.y)) hf hg hg
 have h0:=dt_nn (f.x,f.y) (g.x,g.y)
 unfold rhiF
 rw[dist_ok (p:=(f.x,f.y)) (q:=(g.x,g.y)) hf hg]
 have h1:=(root_spec _ h0 (by omega)).1
 have h2:=root_le h0 hd.2
 dsimp only
 split<;>omega
theorem rjoin_ok {f g:FV}(hf:plOk f.x f.y=true∧0≤f.rad∧f.rad≤100000)(hg:RKept g):RKept (rjoinF f g):=by
 unfold rjoinF
 split
 ·exact hg
 ·have:=rhi_bd hf.1 hg.1
  exact⟨hg.1,by show 0≤rhiF f g+f.rad;omega,by show rhiF f g+f.rad≤3000000;omega⟩
theorem rk_all {ds:List FV}{n:Int}(hd:∀f,f∈ds→plOk f.x f.y=true∧0≤f.rad∧f.rad≤100000):∀m,m≤ds.length→∀g,g∈rkTo n ds m→RKept g
 | 0,_=>fun g hg=>by simp[rkTo] at hg
 | m+1,h=>by
  have ih:=rk_all (n:=n) hd m (by omega)
  have hf:=hd _ (fAt_mem (show m<ds.length by omega))
  rw[rkTo_succ (by omega)]
  intro g hg
  unfold rkStep at hg
  split at hg
  ·rcases List.mem_append.1 hg with hg|hg
   ·exact ih g hg
   ·rw[List.mem_singleton.1 hg]
    exact⟨hf.1,hf.2.1,by omega⟩
  ·rename_i k hk
   rcases List.mem_or_eq_of_mem_set hg with hg|hg
   ·exact ih g hg
   ·rw[hg]
    exact rjoin_ok hf (ih _ (fAt_mem (List.findIdx?_eq_some_iff_getElem.1 hk).1))
theorem valid_pl {f:FV}(h:FValid f=true):plOk f.x f.y=true:=by
 unfold FValid at h
 rw[Bool.and_eq_true] at h
 have h2:=h.2
 have z:plOk 0 0=true:=by decide
 split at h2
 ·unfold discOk at h2
  rw[Bool.and_eq_true] at h2
  exact h2.1
 ·split at h2
  ·unfold areaOk at h2
   simp only[Bool.and_eq_true,decide_eq_true_eq] at h2
   rw[h2.2.1.1,h2.2.1.2]
   exact z
  ·split at h2
   ·unfold areaOk at h2
    simp only[Bool.and_eq_true,decide_eq_true_eq] at h2
    rw[h2.2.2.1.1,h2.2.2.1.2]
    exact z
   ·split at h2
    ·unfold lightOk at h2
     rw[Bool.and_eq_true] at h2
     exact h2.1
    ·cases h2
theorem byD_mem {fs:List FV}:∀g,g∈byD fs→g∈fs:=by
 have:∀ (fs l:List FV) g,g∈fs.foldl (fun l x=>insD x l) l→g∈l∨g∈fs:=by
  intro fs
  induction fs with
  | nil=>intro l g h;exact .inl h
  | cons a fs ih =>
   intro l g h
   rw[List.foldl_cons] at h
   rcases ih _ g h with h|h
   ·unfold insD at h
    rcases List.mem_append.1 h with h|h
    ·exact .inl (List.takeWhile_subset _ h)
    ·rcases List.mem_cons.1 h with h|h
     ·exact .inr (by rw[h];simp)
     ·exact .inl (List.dropWhile_subset _ h)
   ·exact .inr (by simp[h])
 intro g h
 rcases this fs [] g h with h|h
 ·cases h
 ·exact h
set_option maxHeartbeats 16000000
set_option maxRecDepth 100000
theorem filt_succ {k:Int}{fs:List FV}{q:Nat}(h:q<fs.length):(fs.take (q+1)).filter (isKind k)=(fs.take q).filter (isKind k)++(if isKind k (fAt fs q)=true then [fAt fs q] else []):=by
 rw[List.take_add_one,fAt_get h,List.filter_append]
 congr 1
 simp only[Option.toList,List.filter_cons,List.filter_nil]
theorem rthin_v (o k n:Int)(fs:List FV)(A:Option Addr)(c:Nat)(w:World)(hr:Rd w w.heap.size 9 A (fs.map FV.cells))(hl:FList fs=true)(hn:0≤n∧n≤100000) :
  Calls Tryz.prog 73 #[ruV o k n,.slice A fs.length c] w (ThinP w (rkOf k n fs)):=by
 have hm:=hmix
 have hlen:=list_len hl
 have hva:∀f,f∈byD (fs.filter (isKind k))→plOk f.x f.y=true∧0≤f.rad∧f.rad≤100000:=fun f hf=>by
  have hv:=list_valid hl f (List.mem_filter.1 (byD_mem f hf)).1
  exact⟨valid_pl hv,valid_rad hv⟩
 obtain⟨i0,hi,hz0,hz1,hz2⟩:=fInfo_parts feInf
 have HR:=hide hr
 have HVA:=hide hva
 have hnn:=mul_bd (a:=n) (b:=n) 100000 100000 (by omega) (by omega)
 clear hr hl hva
 go_enter Tryz.func73,Tryz.ntmps73
 go_wp2_with fail
 refine wp_name ?_
 intro W0 hW
 have HB:Hid (RuBox W0 w.heap.size o k n):=hide (by rw[←hW];exact RuBox.new w o k n)
 have HG0:Hid (Grew w W0):=hide (by rw[←hW];exact gw)
 clear hW
 go_loopw [5,6] (fun v i wr=>∃q:Nat,q≤fs.length∧i=.int .i64 q∧Grew W0 wr∧wr.ownsRow W0.heap.size 54 9 v ((fs.take q).filter (isKind k)).length (((fs.take q).filter (isKind k)).flatMap FV.cells)) (fun _ i _=>fs.length-(intOf i).toNat)
 case atStart=>exact⟨0,by omega,rfl,gw,World.ownsRow_nil _ _ _ _⟩
 case round =>
  obtain⟨q,hq,rfl,hg,hown⟩:=hrel
  have HG:=hide hg
  have HO:=hide hown
  obtain⟨AL,cL,rfl,_⟩:=fown_slice hown
  obtain⟨⟨r0,r1,r2⟩,rl⟩:=HB.out.up hg
  have hll:((fs.take q).filter (isKind k)).length≤q:=Nat.le_trans (List.length_filter_le _ _) (by rw[List.length_take];exact Nat.min_le_left _ _)
  by_cases hlt:q<fs.length
  ·have hst:=filt_succ (k:=k) hlt
   obtain⟨b1,off1,hA1,hb1,fx⟩:=rowAt (HR.out.up (HG0.out.trans hg)) hlt
   have hix1:=idx_run (cap:=c) Tryz.underlying22 Tryz.sizeOf54 hA1.out hlt
   obtain⟨x,hx⟩:∃x,fAt fs q=x:=⟨_,rfl⟩
   obtain⟨L,hL⟩:∃L,(fs.take q).filter (isKind k)=L:=⟨_,rfl⟩
   rw[hx] at fx hst
   rw[hL] at hst HO hll
   rw[hL]
   obtain⟨c0,c1,c2,c3,c4,c5,c6,c7,c8⟩:=fx
   have HST:=hide hst
   clear hg hown hA1 hx hL hst
   by_cases hk:x.kind=k
   ·have hkb:(x.kind==k)=true:=by simpa using hk
    have hs2:(fs.take (q+1)).filter (isKind k)=L++[x]:=by rw[HST.out,if_pos (show isKind k x=true from decide_eq_true hk)]
    have HS2:=hide hs2
    clear hk hs2
    go_wp2_with fail
    refine wp_region_qas 8 [] [] hm (h:=?_)
    repeat (refine wpSteady_step (fun K hK=>?_);go_simp;refine hK _ ?_;clear hK K)
    refine rq0 fun nq osq=>?_
    try simp only[Act.put,setA]
    try dsimp only
    go_wp2_with (at_builtin;refine AppG3.stop ?_)
    refine AppG3.go ?_
    refine wpList_append_any _ rfl (.tmp 26) (.tmp 31) _ rfl W0.heap.size 54 i0 _ 9 104 Tryz.underlying22 hi hz0 hz1 hz2 rfl (by omega) _ L.length (L.flatMap FV.cells) rfl (fown_grew HO.out gw) _ (some ⟨_,0,none⟩) 1 1 ([x].flatMap FV.cells) rfl ((Rd.lit1 _ x _ (by simp[hs_dr])).reads fv_len (by omega)) (fv_one _) (by simp only[maxLen];omega) (by omega) (by have:=HG.out.below.size;simp[hs_dr];omega) ?_
    intro v' w1 hown1 hg1 _
    have HG2:Hid (Grew W0 w1):=hide (ggrown (HG.out.trans gw) (fown_grew HO.out gw) (Nat.le_refl _) hg1)
    have HO1:=hide hown1
    clear hown1 hg1
    go_wp2_with fail
    go_roundw
    case rel=>exact⟨q+1,by omega,by go_num,HG2.out.trans gw,by rw[HS2.out,List.length_append,List.flatMap_append];exact fown_grew HO1.out gw⟩
    case measure=>simp[intOf];omega
   ·have hkb:(x.kind==k)=false:=by simpa using hk
    have hs2:(fs.take (q+1)).filter (isKind k)=L:=by rw[HST.out,if_neg (by unfold isKind;simpa using hk),List.append_nil]
    have HS2:=hide hs2
    clear hs2
    go_wp2_with fail
    refine wp_region_qas 8 [] [] hm (h:=?_)
    repeat (refine wpSteady_step (fun K hK=>?_);go_simp;refine hK _ ?_;clear hK K)
    refine rq0 fun nq osq=>?_
    try simp only[Act.put,setA]
    try dsimp only
    go_wp2_with fail
    go_roundw
    case rel=>exact⟨q+1,by omega,by go_num,HG.out.trans gw,by rw[HS2.out];exact fown_grew HO.out gw⟩
    case measure=>simp[intOf];omega
  ·obtain rfl:q=fs.length:=by omega
   rw[List.take_length] at hown hll
   rw[List.take_length]
   obtain⟨L,hL⟩:∃L,fs.filter (isKind k)=L:=⟨_,rfl⟩
   rw[hL] at hown hll HVA
   rw[hL]
   have hfin:rkOf k n fs=rkTo n (byD L) (byD L).length:=by unfold rkOf;rw[hL]
   obtain⟨A2,c2,he,_,hrdL⟩:=Rd.of_own fv_len hown rfl
   have hAA:AL=A2:=by injection he
   rw[←hAA] at hrdL
   have kb:=hide (fun W (hg:Grew wr W)=>rbyDepth_v L AL cL W (hrdL.up hg) (by omega))
   have hdl:=byD_len L
   have HFIN:=hide hfin
   have hdl3:(byD L).length≤300:=by omega
   clear hg hown hL hrdL he hAA HO hfin hdl r0 r1 r2 rl
   go_wp2_with fail
   refine (kb.out _ gw).mono ?_
   rintro e W1 ⟨A5,c5,rfl,hrd,hg,_⟩
   obtain⟨ds,hds⟩:∃ds,byD L=ds:=⟨_,rfl⟩
   rw[hds] at hrd HVA HFIN hdl3
   rw[hds]
   have HD:=hide hrd
   have HG1:Hid (Grew W0 W1):=hide (HG.out.trans (Grew.trans gw hg))
   clear hrd hg hds kb hll
   dsimp only
   go_wp2_with fail
   refine wp_name ?_
   intro W6 hW
   have HG6:Hid (Grew W1 W6):=hide (by rw[←hW];exact gw)
   clear hW
   have HD6:=hide (HD.out.up HG6.out)
   have HB6:=hide (HB.out.up (HG1.out.trans HG6.out))
   go_loopw [7,8] (fun kv i wr=>∃m:Nat,m≤ds.length∧i=.int .i64 m∧Grew W6 wr∧wr.ownsRow W6.heap.size 54 9 kv (rkTo n ds m).length ((rkTo n ds m).flatMap FV.cells)) (fun _ i _=>ds.length-(intOf i).toNat)
   case atStart=>exact⟨0,by omega,rfl,Grew.refl _,World.ownsRow_nil _ _ _ _⟩
   case round =>
    obtain⟨m,hmm,rfl,hg,hown⟩:=hrel
    have HG7:=hide hg
    have hkl:=rk_len (n:=n) m hmm
    have hka:=rk_all (n:=n) HVA.out m hmm
    by_cases hlt:m<ds.length
    ·have hst:=rkTo_succ (n:=n) hlt
     have hfr:=HVA.out _ (fAt_mem hlt)
     obtain⟨f,hf⟩:∃f,fAt ds m=f:=⟨_,rfl⟩
     have HF:=hide hf
     rw[hf] at hst hfr
     obtain⟨kept,hk⟩:∃l,rkTo n ds m=l:=⟨_,rfl⟩
     rw[hk] at hown hkl hst hka
     obtain⟨A7,c7,rfl,hc7,hrd7⟩:=Rd.of_own fv_len hown rfl
     have HK:=hide hown
     have HRD:=hide hrd7
     have HST:=hide hst
     have HKA:=hide hka
     obtain⟨Wr,hWr⟩:∃W,W=wr:=⟨wr,rfl⟩
     subst hWr
     clear hst hown hrd7 hg hf hk hka
     go_wp2_with fail
     go_loopw [9] (fun k' wr=>∃p:Nat,p≤kept.length∧k'=.int .i64 p∧Grew Wr wr∧AppG (∀j,j<p→rnearF n f (fAt kept j)=false)) (fun k' _=>kept.length-(intOf k').toNat)
     case atStart=>exact⟨0,by omega,rfl,gw,show ∀j,j<0→rnearF n f (fAt kept j)=false from fun j hj=>by omega⟩
     case round =>
      obtain⟨p,hp,rfl,hg,hall⟩:=hrel
      have HG8:=hide hg
      have HA:=hide hall.stop
      obtain⟨⟨r0,r1,r2⟩,rl⟩:=HB6.out.up (HG7.out.trans hg)
      clear hg hall
      obtain⟨b1,off1,hA1,hb1,fx⟩:=rowAt (HD6.out.up (HG7.out.trans HG8.out)) hlt
      have hix1:=idx_run (cap:=c5) Tryz.underlying22 Tryz.sizeOf54 hA1.out hlt
      rw[HF.out] at fx
      obtain⟨c0,c1,c2,c3,c4,c5',c6,c7',c8⟩:=fx
      clear hA1
      by_cases hpl:p<kept.length
      ·have hpd:=decide_eq_true hpl
       obtain⟨b2,off2,hA2,hb2,fy⟩:=rowAt (HRD.out.up HG8.out) hpl
       have hix2:=idx_run (cap:=c7) (k:=p) (len:=kept.length) Tryz.underlying22 Tryz.sizeOf54 hA2.out hpl
       have hkq:=HKA.out _ (fAt_mem hpl)
       obtain⟨g,hgg⟩:∃g,fAt kept p=g:=⟨_,rfl⟩
       have HGG:=hide hgg
       rw[hgg] at fy hkq
       obtain⟨d0,d1,d2,d3,d4,d5,d6,d7,d8⟩:=fy
       have hdb:=dt_bd (a:=(g.x,g.y)) (b:=(f.x,f.y)) (c:=(f.x,f.y)) hkq.1 hfr.1 hfr.1
       obtain⟨s,hs⟩:∃s,dt (g.x,g.y) (f.x,f.y) (f.x,f.y)=s:=⟨_,rfl⟩
       have ks:=hide (fun W=>p1Square_v (g.x,g.y) (f.x,f.y) s W hkq.1 hfr.1 hs)
       obtain⟨nn,hnn2⟩:∃nn,n*n=nn:=⟨_,rfl⟩
       have hnear:rnearF n f g=decide (s≤nn):=by unfold rnearF;rw[hs,hnn2]
       have HNE:=hide hnear
       rw[hnn2] at hnn
       have hw1:IntKind.i64.wrap nn=nn:=by unfold IntKind.wrap;simp[IntKind.bits,IntKind.signed];omega
       dsimp only at ks
       clear hgg hA2 hs hnear hdb
       by_cases hsn:nn<s
       ·have hsd:=decide_eq_true hsn
        have hne:rnearF n f (fAt kept p)=false:=by rw[HGG.out,HNE.out];exact decide_eq_false (by omega)
        have HNF:=hide hne
        clear hne
        go_wp2_with fail
        refine wp_region_qas 23 [] [] hm (h:=?_)
        repeat (refine wpSteady_step (fun K hK=>?_);go_simp;first|(refine hK _ ?_;clear hK K)|(apply Exists.intro;refine⟨fun _=>?_,hK _ ?_⟩;((go_at_call 88;with_reducible exact ks.out _));clear hK K))
        refine rq0 fun nq osq=>?_
        try simp only[Act.put,setA]
        try dsimp only
        go_wp2_with fail
        go_roundw
        case rel=>exact⟨p+1,by omega,by go_num,HG8.out.trans gw,show ∀j,j<p+1→rnearF n f (fAt kept j)=false from (fun j hj=>by
         by_cases e:j=p
         ·rw[e];exact HNF.out
         ·exact HA.out j (by omega))⟩
        case measure=>simp[intOf];omega
       ·have hsd:=decide_eq_false hsn
        have hne:rnearF n f (fAt kept p)=true:=by rw[HGG.out,HNE.out];exact decide_eq_true (by omega)
        have hst:=HST.out.trans (rstep_some hpl hne HA.out)
        rw[HGG.out] at hst
        have hpk:((p:Int)==(kept.length:Int))=false:=by simp;omega
        have hpk2:¬ (p:Int)=(kept.length:Int):=by omega
        obtain⟨gk,rfl⟩:∃gk,A7=some ⟨gk,0,none⟩:=by
         rcases HK.out.2 with⟨h',h0⟩|⟨g',cap',cur,h',_⟩
         ·omega
         ·simp only[Value.slice.injEq] at h'
          exact⟨g',h'.1⟩
        obtain⟨lg1,lg2⟩:=HK.out.lt gk rfl
        have hown2:=fun (X:World) (hg:Grew Wr X) (x:Int)=>rad_own (fown_grew HK.out hg) hpl x
        have hself:=set_fAt hpl
        rw[HGG.out] at hown2 hself
        obtain⟨u,hu⟩:∃u,rliesF f g=u:=⟨_,rfl⟩
        have hu2:liesB (f.x,f.y) f.rad (g.x,g.y) g.rad=u:=hu
        have kl:=hide (fun W=>p1Inside_v (f.x,f.y) f.rad (g.x,g.y) g.rad u W hfr.1 hkq.1 (by omega) hkq.2 hu2)
        have HS2:=hide hst
        have HSE:=hide hself
        have HOW:=hide hown2
        clear hne hst hself hown2 hsn
        dsimp only at kl
        cases u
        ·have hj:rjoinF f g={ g with rad:=rhiF f g+f.rad }:=by unfold rjoinF;rw[hu,if_neg (by simp)]
         rw[hj] at HS2
         obtain⟨⟨⟨d,d'⟩,e3⟩,hd⟩:∃u,distOf (f.x,f.y) (g.x,g.y)=u:=⟨_,rfl⟩
         have hdh:rhiF f g=d':=by unfold rhiF;rw[hd]
         have hdb:=rhi_bd hfr.1 hkq.1
         have kd:=hide (fun W=>p1Dist_v (f.x,f.y) (g.x,g.y) ((d,d'),e3) W hfr.1 hkq.1 hd)
         rw[hdh] at hdb HS2
         dsimp only at kd
         obtain⟨_,fr1,fr2⟩:=hfr
         have hwr:IntKind.i64.wrap (d'+f.rad)=d'+f.rad:=by unfold IntKind.wrap;simp[IntKind.bits,IntKind.signed];omega
         clear hu hu2 hj hd hdh hkq
         go_wp2_with fail
         refine wp_region_qas 23 [] [] hm (h:=?_)
         repeat (refine wpSteady_step (fun K hK=>?_);go_simp;first|(refine hK _ ?_;clear hK K)|(apply Exists.intro;refine⟨fun _=>?_,hK _ ?_⟩;((go_at_call 88;with_reducible exact ks.out _));clear hK K))
         refine rq0 fun nq osq=>?_
         try simp only[Act.put,setA]
         try dsimp only
         go_wp2_with fail
         refine wp_region_qas 22 [] [] hm (h:=?_)
         repeat (refine wpSteady_step (fun K hK=>?_);go_simp;first|(refine hK _ ?_;clear hK K)|(apply Exists.intro;refine⟨fun _=>?_,hK _ ?_⟩;((go_at_call 78;with_reducible exact kl.out _));clear hK K))
         refine rq0 fun nqa osqa=>?_
         try simp only[Act.put,setA]
         try dsimp only
         go_wp2_with fail
         refine wp_region_qas 17 [⟨14,15,10,134,.agg #[.int .i64 0,.int .i64 0]⟩] [] hm (hZ:=(ZOk.cons Tryz.zeroValue134 Tryz.sizeOf134 ZOk.nil)) (h:=?_)
         repeat (refine wpSteady_step (fun K hK=>?_);go_simp;first|(refine hK _ ?_;clear hK K)|(apply Exists.intro;refine⟨fun _=>?_,hK _ ?_⟩;((go_at_call 111;with_reducible exact kd.out _));clear hK K))
         refine wpSteady_nil ?_
         refine⟨(StOk.cons (by rfl) (by simp[stOpnd,Act.eval,Value.cells,Value.oneCell']) StOk.nil),LyOk.nil,?_⟩
         rintro psq qsq WqH HWqH HFq HBq
         obtain rfl:qsq=[]:=HBq
         obtain⟨pH0,_,rfl,hpH0,hbH0,hnH0,rfl⟩:=HFq
         simp only[putAll,putB,Act.put,setA]
         simp[stOpnd,Act.eval,Value.cells] at hbH0
         have gcH0_0:WqH.cell? ⟨pH0,0,none⟩=some _:=blk_cell hbH0 0
         have gcH0_1:WqH.cell? ⟨pH0,1,none⟩=some _:=blk_cell hbH0 1
         have gfH0:=blk_frozen hbH0
         have glH0:=blk_lt hbH0
         have gpH0:=hide hpH0
         have ghH0:=hide hbH0
         clear hbH0 hnH0 hpH0
         have ocH:=old_cell HWqH
         have ofH:=old_frozen HWqH
         have olH:=old_lt HWqH
         replace HWqH:=hide HWqH
         go_wp2_with fail
         refine wp_name ?_
         intro W9 hW9
         have HG9:Hid (Grew Wr W9):=hide (by rw[←hW9];exact HG8.out.trans (Grew.trans gw HWqH.out))
         have k1:W9.cell? ⟨pH0,1,none⟩=some (.int .i64 d'):=by rw[←hW9];exact gcH0_1
         have kl9:pH0<W9.heap.size:=by rw[←hW9];exact glH0
         clear hW9 ocH ofH olH HWqH gcH0_0 gcH0_1 gfH0 glH0 gpH0 ghH0 d0 d1 d2 d3 d4 d5 d6 d7 d8 c0 c1 c2 c3 c4 c5' c6 c7' c8 hix1 hix2 hb1 hb2 r0 r1 r2 rl
         obtain⟨b1,off1,hA1,hb1,fx⟩:=rowAt (HD6.out.up (HG7.out.trans HG9.out)) hlt
         have hix1:=idx_run (cap:=c5) Tryz.underlying22 Tryz.sizeOf54 hA1.out hlt
         rw[HF.out] at fx
         have c4:=fx.c4
         obtain⟨fcg,hfz⟩:=ownAt (fown_grew HK.out HG9.out) rfl hpl
         have d4:=fcg.c4
         have hf4:=hfz (p*9+4)
         have lg3:gk<W9.heap.size:=Nat.lt_of_lt_of_le lg2 HG9.out.below.size
         have hixz:=idx_run (cap:=c7) (k:=p) (len:=kept.length) Tryz.underlying22 Tryz.sizeOf54 (A:=some ⟨gk,0,none⟩) rfl hpl
         rw[Nat.zero_add] at hixz
         clear hA1 fx fcg hfz
         refine wp_region_qas 12 [] [] hm (h:=?_)
         repeat (refine wpSteady_step (fun K hK=>?_);go_simp;refine hK _ ?_;clear hK K)
         refine rq0 fun nqb osqb=>?_
         try simp only[Act.put,setA]
         try dsimp only
         go_wp2_with fail
         go_roundw
         case rel=>exact⟨m+1,by omega,by go_num,(gset (HG7.out.trans HG9.out) lg1).trans gw,by rw[HS2.out,List.length_set];exact fown_grew (HOW.out W9 HG9.out _) gw⟩
         case measure=>simp[intOf];omega
        ·have hj:rjoinF f g=g:=by unfold rjoinF;rw[hu,if_pos rfl]
         rw[hj,HSE.out] at HS2
         clear hu hu2 hj hkq
         go_wp2_with fail
         refine wp_region_qas 23 [] [] hm (h:=?_)
         repeat (refine wpSteady_step (fun K hK=>?_);go_simp;first|(refine hK _ ?_;clear hK K)|(apply Exists.intro;refine⟨fun _=>?_,hK _ ?_⟩;((go_at_call 88;with_reducible exact ks.out _));clear hK K))
         refine rq0 fun nq osq=>?_
         try simp only[Act.put,setA]
         try dsimp only
         go_wp2_with fail
         refine wp_region_qas 22 [] [] hm (h:=?_)
         repeat (refine wpSteady_step (fun K hK=>?_);go_simp;first|(refine hK _ ?_;clear hK K)|(apply Exists.intro;refine⟨fun _=>?_,hK _ ?_⟩;((go_at_call 78;with_reducible exact kl.out _));clear hK K))
         refine rq0 fun nqa osqa=>?_
         try simp only[Act.put,setA]
         try dsimp only
         go_wp2_with fail
         go_roundw
         case rel=>exact⟨m+1,by omega,by go_num,HG7.out.trans (HG8.out.trans gw),by rw[HS2.out];exact fown_grew HK.out (HG8.out.trans gw)⟩
         case measure=>simp[intOf];omega
      ·obtain rfl:p=kept.length:=by omega
       have hst:=HST.out.trans (rstep_none HA.out)
       have HS2:=hide hst
       clear hst hpl
       go_wp2_with fail
       refine wp_region_qas 23 [] [] hm (h:=?_)
       repeat (refine wpSteady_step (fun K hK=>?_);go_simp;refine hK _ ?_;clear hK K)
       refine rq0 fun nq osq=>?_
       try simp only[Act.put,setA]
       try dsimp only
       go_wp2_with (at_builtin;refine AppG3.stop ?_)
       refine AppG3.go ?_
       refine wpList_append_any _ rfl (.tmp 70) (.tmp 75) _ rfl W6.heap.size 54 i0 _ 9 104 Tryz.underlying22 hi hz0 hz1 hz2 rfl (by omega) _ kept.length (kept.flatMap FV.cells) rfl (fown_grew HK.out (HG8.out.trans gw)) _ (some ⟨_,0,none⟩) 1 1 ([f].flatMap FV.cells) rfl ((Rd.lit1 _ f _ (by simp[hs_dr])).reads fv_len (by omega)) (fv_one _) (by simp only[maxLen];omega) (by omega) (by have:=HG7.out.below.size;have:=HG8.out.below.size;simp[hs_dr];omega) ?_
       intro v' w1 hown1 hg1 _
       have HG9:Hid (Grew W6 w1):=hide (ggrown (HG7.out.trans (HG8.out.trans gw)) (fown_grew HK.out (HG8.out.trans gw)) (Nat.le_refl _) hg1)
       have HO1:=hide hown1
       clear hown1 hg1
       go_wp2_with fail
       go_roundw
       case rel=>exact⟨m+1,by omega,by go_num,HG9.out.trans gw,by rw[HS2.out,List.length_append,List.flatMap_append];exact fown_grew HO1.out gw⟩
       case measure=>simp[intOf];omega
    ·obtain rfl:m=ds.length:=by omega
     rw[←HFIN.out] at hown hkl
     obtain⟨A7,c7,rfl,hc7,hrd7⟩:=Rd.of_own fv_len hown rfl
     have HRD:=hide hrd7
     clear hown hrd7 hg hka
     go_wp2_with fail
     go_ret
     exact⟨A7,c7,rfl,HRD.out.up gw,HG0.out.trans (HG1.out.trans (HG6.out.trans (HG7.out.trans gw))),hc7⟩
end Go.Proofs.YtblgdlnmabkpoaaGreat

