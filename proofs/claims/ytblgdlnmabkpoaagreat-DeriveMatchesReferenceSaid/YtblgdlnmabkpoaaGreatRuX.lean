import Derived.Test.YtblgdlnmabkpoaaGreatRuC
import Derived.Test.YtblgdlnmabkpoaaGreatKitN
/- Package rule: the forms of rules, cell by cell; which rules are valid. Package rule: isRule at rules of no kind. -/
set_option linter.unusedSimpArgs false
set_option linter.unusedVariables false
set_option maxHeartbeats 8000000
set_option maxRecDepth 100000
namespace Go.Proofs.YtblgdlnmabkpoaaGreat
open Go.RowKit Go.Sort
attribute [local go_sem] Steady steadyUpon
attribute [local go_sem ↓] hs_dr lt_add_r lt_add_r2 lt_add_r3 lt_add_r4 lt_add_r5 lt_add_r6
attribute [local go_sem] cell?_gd frozen?_gd setCell_gd size_grow tape_grow cell?_grow' frozen?_grow' setCell_grow' grow_grow grow_dr grow_drew dr_dr dr_drew drew_dr dr_alloc dr_setCell dr_cell dr_frozen dr_tape dr_drawn
attribute [local irreducible] wpSteady
def ruleOk (o k n:Int):Bool:=decide (1≤o∧o≤5)&&((opKinds o).contains k&&decide (opLeast o≤n∧n≤opMost o))
theorem rdN {W:World}{b:Nat}{cs:Array Value}{T:TypeId}(ks:List Int)(h:W.heap[b]?=some (.cells cs T (0,0)))(hc:cs.toList=ks.map fun n=>.int .i64 n):Rd W W.heap.size 1 (some ⟨b,0,none⟩) (ks.map encN):=by
 refine .inr ⟨b,0,rfl,blk_lt h,fun k x hx j v hv=>?_⟩
 rw[List.getElem?_map] at hx
 cases hk:ks[k]? with
 | none=>rw[hk] at hx;cases hx
 | some y =>
  rw[hk] at hx
  injection hx with hx
  subst hx
  match j,hv with
  | 0,hv =>
   injection hv with hv
   subst hv
   have hcs:cs[k]?=some (.int .i64 y):=by
    rw[←Array.getElem?_toList,hc,List.getElem?_map,hk]
    rfl
   have:W.cell? ⟨b,k,none⟩=cs[k]?:=by
    unfold World.cell?
    simp[h]
   simpa[hcs] using this
theorem FormsAt.k1' {W:World}{g b1 b2 b3 b4 b5:Nat}(h:FormsAt W g b1 b2 b3 b4 b5):∃s:Value,W.cell? ⟨g,5,none⟩=some s∧W.cell? ⟨g,6,none⟩=some (.slice (some ⟨b1,0,none⟩) 1 1)∧W.cell? ⟨g,7,none⟩=some (.int .i64 1)∧W.cell? ⟨g,8,none⟩=some (.int .i64 100000)∧W.cell? ⟨g,9,none⟩=some (.nilFunc) :=
 ⟨_,blk_cell h.row 5,blk_cell h.row 6,blk_cell h.row 7,blk_cell h.row 8,blk_cell h.row 9⟩
theorem FormsAt.k2' {W:World}{g b1 b2 b3 b4 b5:Nat}(h:FormsAt W g b1 b2 b3 b4 b5):∃s:Value,W.cell? ⟨g,10,none⟩=some s∧W.cell? ⟨g,11,none⟩=some (.slice (some ⟨b2,0,none⟩) 4 4)∧W.cell? ⟨g,12,none⟩=some (.int .i64 1)∧W.cell? ⟨g,13,none⟩=some (.int .i64 1000)∧W.cell? ⟨g,14,none⟩=some (.func (.func 105) #[] #[]) :=
 ⟨_,blk_cell h.row 10,blk_cell h.row 11,blk_cell h.row 12,blk_cell h.row 13,blk_cell h.row 14⟩
theorem FormsAt.k3' {W:World}{g b1 b2 b3 b4 b5:Nat}(h:FormsAt W g b1 b2 b3 b4 b5):∃s:Value,W.cell? ⟨g,15,none⟩=some s∧W.cell? ⟨g,16,none⟩=some (.slice (some ⟨b3,0,none⟩) 3 3)∧W.cell? ⟨g,17,none⟩=some (.int .i64 0)∧W.cell? ⟨g,18,none⟩=some (.int .i64 100000)∧W.cell? ⟨g,19,none⟩=some (.nilFunc) :=
 ⟨_,blk_cell h.row 15,blk_cell h.row 16,blk_cell h.row 17,blk_cell h.row 18,blk_cell h.row 19⟩
theorem FormsAt.k4' {W:World}{g b1 b2 b3 b4 b5:Nat}(h:FormsAt W g b1 b2 b3 b4 b5):∃s:Value,W.cell? ⟨g,20,none⟩=some s∧W.cell? ⟨g,21,none⟩=some (.slice (some ⟨b4,0,none⟩) 3 3)∧W.cell? ⟨g,22,none⟩=some (.int .i64 0)∧W.cell? ⟨g,23,none⟩=some (.int .i64 100000)∧W.cell? ⟨g,24,none⟩=some (.func (.func 106) #[] #[]) :=
 ⟨_,blk_cell h.row 20,blk_cell h.row 21,blk_cell h.row 22,blk_cell h.row 23,blk_cell h.row 24⟩
theorem FormsAt.k5' {W:World}{g b1 b2 b3 b4 b5:Nat}(h:FormsAt W g b1 b2 b3 b4 b5):∃s:Value,W.cell? ⟨g,25,none⟩=some s∧W.cell? ⟨g,26,none⟩=some (.slice (some ⟨b5,0,none⟩) 2 2)∧W.cell? ⟨g,27,none⟩=some (.int .i64 0)∧W.cell? ⟨g,28,none⟩=some (.int .i64 0)∧W.cell? ⟨g,29,none⟩=some (.func (.func 107) #[] #[]) :=
 ⟨_,blk_cell h.row 25,blk_cell h.row 26,blk_cell h.row 27,blk_cell h.row 28,blk_cell h.row 29⟩
theorem isRule_low (o k n:Int)(w:World)(h:o<1):Calls Tryz.prog 68 #[ruV o k n] w (Ret w (.bool false)):=by
 have hm:=hmix
 have h1:decide (1≤o)=false:=decide_eq_false (by omega)
 have h2:¬ 1≤o:=by omega
 go_enter Tryz.func68,Tryz.ntmps68
 go_wp2_with fail
 refine wp_name ?_
 intro W0 hW
 have HBX:Hid (RuBox W0 w.heap.size o k n):=hide (by rw[←hW];exact RuBox.new w o k n)
 have HG0:Hid (Grew w W0):=hide (by rw[←hW];exact gw)
 clear hW
 have hB0:=HBX.out.2
 refine wp_region_held_drew (S:=(fun w'=>w'.cell? ⟨w.heap.size,0,none⟩=some (.int .i64 o)∧w'.cell? ⟨w.heap.size,1,none⟩=some (.int .i64 k)∧w'.cell? ⟨w.heap.size,2,none⟩=some (.int .i64 n))) hm ?_ (fun hHeld=>?_)
 ·exact (RuBox.up HBX.out gw).1
 refine tk 0 ?_
 try simp only[Act.put,setA,getA]
 refine tk 1 ?_
 try simp only[Act.put,setA,getA]
 refine tk 2 ?_
 try simp only[Act.put,setA,getA]
 refine tk 3 ?_
 try simp only[Act.put,setA,getA]
 refine ts 4 ?_
 refine ts 5 ?_
 refine ts 6 ?_
 try simp only[Act.put,setA,getA]
 refine ts 7 ?_
 try simp only[Act.put,setA,getA]
 refine ts 8 ?_
 try simp only[Act.put,setA,getA]
 refine tk 9 ?_
 try simp only[Act.put,setA,getA]
 refine tk 10 ?_
 try simp only[Act.put,setA,getA]
 refine ts 11 ?_
 refine ts 12 ?_
 refine ts 13 ?_
 refine ts 14 ?_
 refine ts 15 ?_
 refine ts 16 ?_
 try simp only[Act.put,setA,getA]
 refine ts 17 ?_
 try simp only[Act.put,setA,getA]
 refine ts 18 ?_
 try simp only[Act.put,setA,getA]
 refine tk 19 ?_
 try simp only[Act.put,setA,getA]
 refine tk 20 ?_
 try simp only[Act.put,setA,getA]
 refine ts 21 ?_
 refine ts 22 ?_
 refine ts 23 ?_
 refine ts 24 ?_
 refine ts 25 ?_
 refine ts 26 ?_
 try simp only[Act.put,setA,getA]
 refine ts 27 ?_
 try simp only[Act.put,setA,getA]
 refine ts 28 ?_
 try simp only[Act.put,setA,getA]
 refine tk 29 ?_
 try simp only[Act.put,setA,getA]
 refine tk 30 ?_
 try simp only[Act.put,setA,getA]
 refine wpAnyH_done (by kernel_rfl) ?_ _
 go_wp2_with fail
 go_ret
 exact Ret.mk' rfl (HG0.out.trans gw)
theorem isRule_high (o k n:Int)(w:World)(h:6≤o):Calls Tryz.prog 68 #[ruV o k n] w (Ret w (.bool false)):=by
 have hm:=hmix
 have h1:decide (1≤o)=true:=decide_eq_true (by omega)
 have h2:1≤o:=by omega
 have h3:¬ o<6:=by omega
 have h4:decide (o<6)=false:=decide_eq_false (by omega)
 go_enter Tryz.func68,Tryz.ntmps68
 go_wp2_with fail
 refine wp_name ?_
 intro W0 hW
 have HBX:Hid (RuBox W0 w.heap.size o k n):=hide (by rw[←hW];exact RuBox.new w o k n)
 have HG0:Hid (Grew w W0):=hide (by rw[←hW];exact gw)
 clear hW
 have hB0:=HBX.out.2
 refine wp_region_held_drew (S:=(fun w'=>w'.cell? ⟨w.heap.size,0,none⟩=some (.int .i64 o)∧w'.cell? ⟨w.heap.size,1,none⟩=some (.int .i64 k)∧w'.cell? ⟨w.heap.size,2,none⟩=some (.int .i64 n))) hm ?_ (fun hHeld=>?_)
 ·exact (RuBox.up HBX.out gw).1
 refine tk 0 ?_
 try simp only[Act.put,setA,getA]
 refine tk 1 ?_
 try simp only[Act.put,setA,getA]
 refine tk 2 ?_
 try simp only[Act.put,setA,getA]
 refine tk 3 ?_
 try simp only[Act.put,setA,getA]
 refine tk 4 ?_
 try simp only[Act.put,setA,getA]
 refine tk 5 ?_
 try simp only[Act.put,setA,getA]
 refine wpAnyH_ready (rs:=[6]) (by kernel_rfl) (by simp) ?_
 refine AllReadyH.cons (o:=_) rfl (fun K hK=>?_) AllReadyH.nil
 go_simp
 first|((go_at_call 71);(refine (forms_v _).mono ?_);rintro e Wn ⟨g,b1,b2,b3,b4,b5,rfl,hF,hgr⟩;have HGn:Hid (Grew W0 Wn):=hide (Grew.trans gw hgr);clear hF hgr;dsimp only)|skip
 refine hK.out _ _ ?_ (fun hHeld=>?_)
 ·exact (RuBox.up HBX.out gw).1
 clear hK K
 try simp only[Act.put,setA,getA]
 refine tk 7 ?_
 try simp only[Act.put,setA,getA]
 refine tk 8 ?_
 try simp only[Act.put,setA,getA]
 refine tk 9 ?_
 try simp only[Act.put,setA,getA]
 refine tk 10 ?_
 try simp only[Act.put,setA,getA]
 refine ts 11 ?_
 refine ts 12 ?_
 refine ts 13 ?_
 refine ts 14 ?_
 refine ts 15 ?_
 refine ts 16 ?_
 try simp only[Act.put,setA,getA]
 refine ts 17 ?_
 try simp only[Act.put,setA,getA]
 refine ts 18 ?_
 try simp only[Act.put,setA,getA]
 refine tk 19 ?_
 try simp only[Act.put,setA,getA]
 refine tk 20 ?_
 try simp only[Act.put,setA,getA]
 refine ts 21 ?_
 refine ts 22 ?_
 refine ts 23 ?_
 refine ts 24 ?_
 refine ts 25 ?_
 refine ts 26 ?_
 try simp only[Act.put,setA,getA]
 refine ts 27 ?_
 try simp only[Act.put,setA,getA]
 refine ts 28 ?_
 try simp only[Act.put,setA,getA]
 refine tk 29 ?_
 try simp only[Act.put,setA,getA]
 refine tk 30 ?_
 try simp only[Act.put,setA,getA]
 refine wpAnyH_done (by kernel_rfl) ?_ _
 go_wp2_with fail
 go_ret
 exact Ret.mk' rfl (HG0.out.trans gw)
set_option maxHeartbeats 8000000
set_option maxRecDepth 100000
theorem five {q:Nat}(h:1≤q∧q≤5):q=1∨q=2∨q=3∨q=4∨q=5:=by omega
theorem kinds_len {q:Nat}(h:1≤q∧q≤5):(opKinds (q:Int)).length≤4:=by
 rcases five h with rfl|rfl|rfl|rfl|rfl<;>decide
theorem FormsAt.at {W:World}{g b1 b2 b3 b4 b5:Nat}(h:FormsAt W g b1 b2 b3 b4 b5){q:Nat}(hq:1≤q∧q≤5):∃ (s f:Value) (b:Nat),W.cell? ⟨g,q*5,none⟩=some s∧W.cell? ⟨g,q*5+1,none⟩=some (.slice (some ⟨b,0,none⟩) (opKinds (q:Int)).length (opKinds (q:Int)).length)∧W.cell? ⟨g,q*5+2,none⟩=some (.int .i64 (opLeast (q:Int)))∧W.cell? ⟨g,q*5+3,none⟩=some (.int .i64 (opMost (q:Int)))∧W.cell? ⟨g,q*5+4,none⟩=some f∧Hid (∀W',Grew W W'→Rd W' W'.heap.size 1 (some ⟨b,0,none⟩) ((opKinds (q:Int)).map encN)):=by
 rcases five hq with rfl|rfl|rfl|rfl|rfl
 ·exact⟨_,_,b1,blk_cell h.row 5,blk_cell h.row 6,blk_cell h.row 7,blk_cell h.row 8,blk_cell h.row 9,hide fun W' hg=>rdN [0] (h.up hg).k1 rfl⟩
 ·exact⟨_,_,b2,blk_cell h.row 10,blk_cell h.row 11,blk_cell h.row 12,blk_cell h.row 13,blk_cell h.row 14,hide fun W' hg=>rdN [1,2,3,5] (h.up hg).k2 rfl⟩
 ·exact⟨_,_,b3,blk_cell h.row 15,blk_cell h.row 16,blk_cell h.row 17,blk_cell h.row 18,blk_cell h.row 19,hide fun W' hg=>rdN [1,2,5] (h.up hg).k3 rfl⟩
 ·exact⟨_,_,b4,blk_cell h.row 20,blk_cell h.row 21,blk_cell h.row 22,blk_cell h.row 23,blk_cell h.row 24,hide fun W' hg=>rdN [1,2,5] (h.up hg).k4 rfl⟩
 ·exact⟨_,_,b5,blk_cell h.row 25,blk_cell h.row 26,blk_cell h.row 27,blk_cell h.row 28,blk_cell h.row 29,hide fun W' hg=>rdN [3,6] (h.up hg).k5 rfl⟩
theorem isRule_mid (q:Nat)(hq:1≤q∧q≤5)(k n:Int)(r:Bool)(w:World)(h:ruleOk (q:Int) k n=r):Calls Tryz.prog 68 #[ruV (q:Int) k n] w (Ret w (.bool r)):=by
 have hm:=hmix
 obtain⟨ks,hks⟩:∃l,opKinds (q:Int)=l:=⟨_,rfl⟩
 obtain⟨lo,hlo⟩:∃l,opLeast (q:Int)=l:=⟨_,rfl⟩
 obtain⟨hi,hhi⟩:∃l,opMost (q:Int)=l:=⟨_,rfl⟩
 obtain⟨o1,h1⟩:∃o,ks.contains k=o:=⟨_,rfl⟩
 obtain⟨o2,h2⟩:∃o,decide (lo≤n∧n≤hi)=o:=⟨_,rfl⟩
 obtain rfl:(o1&&o2)=r:=by
  rw[←h,←h1,←h2,←hks,←hlo,←hhi]
  unfold ruleOk
  rw[decide_eq_true (by omega:1≤(q:Int)∧(q:Int)≤5),Bool.true_and]
 have hkl:ks.length≤4:=by rw[←hks];exact kinds_len hq
 have hat:Hid (∀ (W:World) (g b1 b2 b3 b4 b5:Nat),FormsAt W g b1 b2 b3 b4 b5→∃ (s f:Value) (b:Nat),W.cell? ⟨g,q*5,none⟩=some s∧W.cell? ⟨g,q*5+1,none⟩=some (.slice (some ⟨b,0,none⟩) ks.length ks.length)∧W.cell? ⟨g,q*5+2,none⟩=some (.int .i64 lo)∧W.cell? ⟨g,q*5+3,none⟩=some (.int .i64 hi)∧W.cell? ⟨g,q*5+4,none⟩=some f∧Hid (∀W',Grew W W'→Rd W' W'.heap.size 1 (some ⟨b,0,none⟩) (ks.map encN))):=hide (fun W g b1 b2 b3 b4 b5 hF=>by
  have:=hF.at hq
  rw[hks,hlo,hhi] at this
  exact this)
 have k2:Hid (∀ (s:Value) A m c (f:Value) W,Calls Tryz.prog 91 #[.agg #[s,.slice A m c,.int .i64 lo,.int .i64 hi,f],.int .i64 n] W (Ret W (.bool o2))):=hide (fun s A m c f W=>fhas_v s A m c lo hi f n o2 W h2)
 have k1:Hid (∀ (s:Value) A c (f:Value) W,Rd W W.heap.size 1 A (ks.map encN)→Calls Tryz.prog 90 #[.agg #[s,.slice A ks.length c,.int .i64 lo,.int .i64 hi,f],.int .i64 k] W (Ret W (.bool o1))):=hide (fun s A c f W hr=>can_v s ks A c lo hi f k o1 W hr (by omega) h1)
 have g1:decide (1≤(q:Int))=true:=decide_eq_true (by omega)
 have g2:1≤(q:Int):=by omega
 have g3:(q:Int)<6:=by omega
 have g4:decide ((q:Int)<6)=true:=decide_eq_true g3
 have hq6:q<6:=by omega
 clear h h1 h2 hks hlo hhi hq
 cases o1
 ·go_enter Tryz.func68,Tryz.ntmps68
  go_wp2_with fail
  refine wp_name ?_
  intro W0 hW
  have HBX:Hid (RuBox W0 w.heap.size (q:Int) k n):=hide (by rw[←hW];exact RuBox.new w (q:Int) k n)
  have HG0:Hid (Grew w W0):=hide (by rw[←hW];exact gw)
  clear hW
  have hB0:=HBX.out.2
  refine wp_region_held_drew (S:=(fun w'=>w'.cell? ⟨w.heap.size,0,none⟩=some (.int .i64 (q:Int))∧w'.cell? ⟨w.heap.size,1,none⟩=some (.int .i64 k)∧w'.cell? ⟨w.heap.size,2,none⟩=some (.int .i64 n))) hm ?_ (fun hHeld=>?_)
  ·exact (RuBox.up HBX.out gw).1
  refine tk 0 ?_
  try simp only[Act.put,setA,getA]
  refine tk 1 ?_
  try simp only[Act.put,setA,getA]
  refine tk 2 ?_
  try simp only[Act.put,setA,getA]
  refine tk 3 ?_
  try simp only[Act.put,setA,getA]
  refine tk 4 ?_
  try simp only[Act.put,setA,getA]
  refine tk 5 ?_
  try simp only[Act.put,setA,getA]
  refine wpAnyH_ready (rs:=[6]) (by kernel_rfl) (by simp) ?_
  refine AllReadyH.cons (o:=_) rfl (fun K hK=>?_) AllReadyH.nil
  go_simp
  (first|((go_at_call 71);(try clear q0 q1 q2 q3 q4 HF hix);(refine (forms_v _).mono ?_);rintro e Wn ⟨g,b1,b2,b3,b4,b5,rfl,hF,hgr⟩;have HGn:Hid (Grew W0 Wn):=hide (Grew.trans gw hgr);obtain⟨s,fv,bb,q0,q1,q2,q3,q4,HF⟩:=hat.out _ _ _ _ _ _ _ hF;have hix:=idx_run (cap:=6) (len:=6) (k:=q) (A:=some ⟨g,0,none⟩) (b:=g) (off:=0) Tryz.underlying103 Tryz.sizeOf102 rfl hq6;simp only[Nat.zero_add] at hix;clear hF hgr;dsimp only)|((go_at_call 90);(with_reducible refine (k1.out _ _ _ _ _ (HF.out _ gw)).mono ?_);rintro e w' ⟨rfl,⟨_,_⟩,rfl⟩;dsimp only)|((go_at_call 91);(with_reducible refine (k2.out _ _ _ _ _ _).mono ?_);rintro e w' ⟨rfl,⟨_,_⟩,rfl⟩;dsimp only)|skip)
  refine hK.out _ _ ?_ (fun hHeld=>?_)
  ·exact (RuBox.up HBX.out gw).1
  clear hK K
  try simp only[Act.put,setA,getA]
  refine tk 7 ?_
  try simp only[Act.put,setA,getA]
  refine tk 8 ?_
  try simp only[Act.put,setA,getA]
  refine tk 9 ?_
  try simp only[Act.put,setA,getA]
  refine tk 10 ?_
  try simp only[Act.put,setA,getA]
  refine tk 12 ?_
  refine tk 13 ?_
  refine tk 16 ?_
  try simp only[Act.put,setA,getA]
  refine tk 17 ?_
  try simp only[Act.put,setA,getA]
  refine wpAnyH_ready (rs:=[11]) (by kernel_rfl) (by simp) ?_
  refine AllReadyH.cons (o:=_) rfl (fun K hK=>?_) AllReadyH.nil
  go_simp
  (first|((go_at_call 71);(try clear q0 q1 q2 q3 q4 HF hix);(refine (forms_v _).mono ?_);rintro e Wn ⟨g,b1,b2,b3,b4,b5,rfl,hF,hgr⟩;have HGn:Hid (Grew W0 Wn):=hide (Grew.trans gw hgr);obtain⟨s,fv,bb,q0,q1,q2,q3,q4,HF⟩:=hat.out _ _ _ _ _ _ _ hF;have hix:=idx_run (cap:=6) (len:=6) (k:=q) (A:=some ⟨g,0,none⟩) (b:=g) (off:=0) Tryz.underlying103 Tryz.sizeOf102 rfl hq6;simp only[Nat.zero_add] at hix;clear hF hgr;dsimp only)|((go_at_call 90);(with_reducible refine (k1.out _ _ _ _ _ (HF.out _ gw)).mono ?_);rintro e w' ⟨rfl,⟨_,_⟩,rfl⟩;dsimp only)|((go_at_call 91);(with_reducible refine (k2.out _ _ _ _ _ _).mono ?_);rintro e w' ⟨rfl,⟨_,_⟩,rfl⟩;dsimp only)|skip)
  refine hK.out _ _ ?_ (fun hHeld=>?_)
  ·exact (RuBox.up HBX.out gw).1
  clear hK K
  try simp only[Act.put,setA,getA]
  refine tk 14 ?_
  try simp only[Act.put,setA,getA]
  refine wpAnyH_ready (rs:=[15]) (by kernel_rfl) (by simp) ?_
  refine AllReadyH.cons (o:=_) rfl (fun K hK=>?_) AllReadyH.nil
  go_simp
  (first|((go_at_call 71);(try clear q0 q1 q2 q3 q4 HF hix);(refine (forms_v _).mono ?_);rintro e Wn ⟨g,b1,b2,b3,b4,b5,rfl,hF,hgr⟩;have HGn:Hid (Grew W0 Wn):=hide (Grew.trans gw hgr);obtain⟨s,fv,bb,q0,q1,q2,q3,q4,HF⟩:=hat.out _ _ _ _ _ _ _ hF;have hix:=idx_run (cap:=6) (len:=6) (k:=q) (A:=some ⟨g,0,none⟩) (b:=g) (off:=0) Tryz.underlying103 Tryz.sizeOf102 rfl hq6;simp only[Nat.zero_add] at hix;clear hF hgr;dsimp only)|((go_at_call 90);(with_reducible refine (k1.out _ _ _ _ _ (HF.out _ gw)).mono ?_);rintro e w' ⟨rfl,⟨_,_⟩,rfl⟩;dsimp only)|((go_at_call 91);(with_reducible refine (k2.out _ _ _ _ _ _).mono ?_);rintro e w' ⟨rfl,⟨_,_⟩,rfl⟩;dsimp only)|skip)
  refine hK.out _ _ ?_ (fun hHeld=>?_)
  ·exact (RuBox.up HBX.out gw).1
  clear hK K
  try simp only[Act.put,setA,getA]
  refine wpAnyH_ready (rs:=[18]) (by kernel_rfl) (by simp) ?_
  refine AllReadyH.cons (o:=_) rfl (fun K hK=>?_) AllReadyH.nil
  go_simp
  (first|((go_at_call 71);(try clear q0 q1 q2 q3 q4 HF hix);(refine (forms_v _).mono ?_);rintro e Wn ⟨g,b1,b2,b3,b4,b5,rfl,hF,hgr⟩;have HGn:Hid (Grew W0 Wn):=hide (Grew.trans gw hgr);obtain⟨s,fv,bb,q0,q1,q2,q3,q4,HF⟩:=hat.out _ _ _ _ _ _ _ hF;have hix:=idx_run (cap:=6) (len:=6) (k:=q) (A:=some ⟨g,0,none⟩) (b:=g) (off:=0) Tryz.underlying103 Tryz.sizeOf102 rfl hq6;simp only[Nat.zero_add] at hix;clear hF hgr;dsimp only)|((go_at_call 90);(with_reducible refine (k1.out _ _ _ _ _ (HF.out _ gw)).mono ?_);rintro e w' ⟨rfl,⟨_,_⟩,rfl⟩;dsimp only)|((go_at_call 91);(with_reducible refine (k2.out _ _ _ _ _ _).mono ?_);rintro e w' ⟨rfl,⟨_,_⟩,rfl⟩;dsimp only)|skip)
  refine hK.out _ _ ?_ (fun hHeld=>?_)
  ·exact (RuBox.up HBX.out gw).1
  clear hK K
  try simp only[Act.put,setA,getA]
  refine tk 19 ?_
  try simp only[Act.put,setA,getA]
  refine tk 20 ?_
  try simp only[Act.put,setA,getA]
  refine ts 21 ?_
  refine ts 22 ?_
  refine ts 23 ?_
  refine ts 24 ?_
  refine ts 25 ?_
  refine ts 26 ?_
  try simp only[Act.put,setA,getA]
  refine ts 27 ?_
  try simp only[Act.put,setA,getA]
  refine ts 28 ?_
  try simp only[Act.put,setA,getA]
  refine tk 29 ?_
  try simp only[Act.put,setA,getA]
  refine tk 30 ?_
  try simp only[Act.put,setA,getA]
  refine wpAnyH_done (by kernel_rfl) ?_ _
  go_wp2_with fail
  go_ret
  exact Ret.mk' rfl (HG0.out.trans gw)
 ·go_enter Tryz.func68,Tryz.ntmps68
  go_wp2_with fail
  refine wp_name ?_
  intro W0 hW
  have HBX:Hid (RuBox W0 w.heap.size (q:Int) k n):=hide (by rw[←hW];exact RuBox.new w (q:Int) k n)
  have HG0:Hid (Grew w W0):=hide (by rw[←hW];exact gw)
  clear hW
  have hB0:=HBX.out.2
  refine wp_region_held_drew (S:=(fun w'=>w'.cell? ⟨w.heap.size,0,none⟩=some (.int .i64 (q:Int))∧w'.cell? ⟨w.heap.size,1,none⟩=some (.int .i64 k)∧w'.cell? ⟨w.heap.size,2,none⟩=some (.int .i64 n))) hm ?_ (fun hHeld=>?_)
  ·exact (RuBox.up HBX.out gw).1
  refine tk 0 ?_
  try simp only[Act.put,setA,getA]
  refine tk 1 ?_
  try simp only[Act.put,setA,getA]
  refine tk 2 ?_
  try simp only[Act.put,setA,getA]
  refine tk 3 ?_
  try simp only[Act.put,setA,getA]
  refine tk 4 ?_
  try simp only[Act.put,setA,getA]
  refine tk 5 ?_
  try simp only[Act.put,setA,getA]
  refine wpAnyH_ready (rs:=[6]) (by kernel_rfl) (by simp) ?_
  refine AllReadyH.cons (o:=_) rfl (fun K hK=>?_) AllReadyH.nil
  go_simp
  (first|((go_at_call 71);(try clear q0 q1 q2 q3 q4 HF hix);(refine (forms_v _).mono ?_);rintro e Wn ⟨g,b1,b2,b3,b4,b5,rfl,hF,hgr⟩;have HGn:Hid (Grew W0 Wn):=hide (Grew.trans gw hgr);obtain⟨s,fv,bb,q0,q1,q2,q3,q4,HF⟩:=hat.out _ _ _ _ _ _ _ hF;have hix:=idx_run (cap:=6) (len:=6) (k:=q) (A:=some ⟨g,0,none⟩) (b:=g) (off:=0) Tryz.underlying103 Tryz.sizeOf102 rfl hq6;simp only[Nat.zero_add] at hix;clear hF hgr;dsimp only)|((go_at_call 90);(with_reducible refine (k1.out _ _ _ _ _ (HF.out _ gw)).mono ?_);rintro e w' ⟨rfl,⟨_,_⟩,rfl⟩;dsimp only)|((go_at_call 91);(with_reducible refine (k2.out _ _ _ _ _ _).mono ?_);rintro e w' ⟨rfl,⟨_,_⟩,rfl⟩;dsimp only)|skip)
  refine hK.out _ _ ?_ (fun hHeld=>?_)
  ·exact (RuBox.up HBX.out gw).1
  clear hK K
  try simp only[Act.put,setA,getA]
  refine tk 7 ?_
  try simp only[Act.put,setA,getA]
  refine tk 8 ?_
  try simp only[Act.put,setA,getA]
  refine tk 9 ?_
  try simp only[Act.put,setA,getA]
  refine tk 10 ?_
  try simp only[Act.put,setA,getA]
  refine tk 12 ?_
  refine tk 13 ?_
  refine tk 16 ?_
  try simp only[Act.put,setA,getA]
  refine tk 17 ?_
  try simp only[Act.put,setA,getA]
  refine wpAnyH_ready (rs:=[11]) (by kernel_rfl) (by simp) ?_
  refine AllReadyH.cons (o:=_) rfl (fun K hK=>?_) AllReadyH.nil
  go_simp
  (first|((go_at_call 71);(try clear q0 q1 q2 q3 q4 HF hix);(refine (forms_v _).mono ?_);rintro e Wn ⟨g,b1,b2,b3,b4,b5,rfl,hF,hgr⟩;have HGn:Hid (Grew W0 Wn):=hide (Grew.trans gw hgr);obtain⟨s,fv,bb,q0,q1,q2,q3,q4,HF⟩:=hat.out _ _ _ _ _ _ _ hF;have hix:=idx_run (cap:=6) (len:=6) (k:=q) (A:=some ⟨g,0,none⟩) (b:=g) (off:=0) Tryz.underlying103 Tryz.sizeOf102 rfl hq6;simp only[Nat.zero_add] at hix;clear hF hgr;dsimp only)|((go_at_call 90);(with_reducible refine (k1.out _ _ _ _ _ (HF.out _ gw)).mono ?_);rintro e w' ⟨rfl,⟨_,_⟩,rfl⟩;dsimp only)|((go_at_call 91);(with_reducible refine (k2.out _ _ _ _ _ _).mono ?_);rintro e w' ⟨rfl,⟨_,_⟩,rfl⟩;dsimp only)|skip)
  refine hK.out _ _ ?_ (fun hHeld=>?_)
  ·exact (RuBox.up HBX.out gw).1
  clear hK K
  try simp only[Act.put,setA,getA]
  refine tk 14 ?_
  try simp only[Act.put,setA,getA]
  refine wpAnyH_ready (rs:=[15]) (by kernel_rfl) (by simp) ?_
  refine AllReadyH.cons (o:=_) rfl (fun K hK=>?_) AllReadyH.nil
  go_simp
  (first|((go_at_call 71);(try clear q0 q1 q2 q3 q4 HF hix);(refine (forms_v _).mono ?_);rintro e Wn ⟨g,b1,b2,b3,b4,b5,rfl,hF,hgr⟩;have HGn:Hid (Grew W0 Wn):=hide (Grew.trans gw hgr);obtain⟨s,fv,bb,q0,q1,q2,q3,q4,HF⟩:=hat.out _ _ _ _ _ _ _ hF;have hix:=idx_run (cap:=6) (len:=6) (k:=q) (A:=some ⟨g,0,none⟩) (b:=g) (off:=0) Tryz.underlying103 Tryz.sizeOf102 rfl hq6;simp only[Nat.zero_add] at hix;clear hF hgr;dsimp only)|((go_at_call 90);(with_reducible refine (k1.out _ _ _ _ _ (HF.out _ gw)).mono ?_);rintro e w' ⟨rfl,⟨_,_⟩,rfl⟩;dsimp only)|((go_at_call 91);(with_reducible refine (k2.out _ _ _ _ _ _).mono ?_);rintro e w' ⟨rfl,⟨_,_⟩,rfl⟩;dsimp only)|skip)
  refine hK.out _ _ ?_ (fun hHeld=>?_)
  ·exact (RuBox.up HBX.out gw).1
  clear hK K
  try simp only[Act.put,setA,getA]
  refine wpAnyH_ready (rs:=[18]) (by kernel_rfl) (by simp) ?_
  refine AllReadyH.cons (o:=_) rfl (fun K hK=>?_) AllReadyH.nil
  go_simp
  (first|((go_at_call 71);(try clear q0 q1 q2 q3 q4 HF hix);(refine (forms_v _).mono ?_);rintro e Wn ⟨g,b1,b2,b3,b4,b5,rfl,hF,hgr⟩;have HGn:Hid (Grew W0 Wn):=hide (Grew.trans gw hgr);obtain⟨s,fv,bb,q0,q1,q2,q3,q4,HF⟩:=hat.out _ _ _ _ _ _ _ hF;have hix:=idx_run (cap:=6) (len:=6) (k:=q) (A:=some ⟨g,0,none⟩) (b:=g) (off:=0) Tryz.underlying103 Tryz.sizeOf102 rfl hq6;simp only[Nat.zero_add] at hix;clear hF hgr;dsimp only)|((go_at_call 90);(with_reducible refine (k1.out _ _ _ _ _ (HF.out _ gw)).mono ?_);rintro e w' ⟨rfl,⟨_,_⟩,rfl⟩;dsimp only)|((go_at_call 91);(with_reducible refine (k2.out _ _ _ _ _ _).mono ?_);rintro e w' ⟨rfl,⟨_,_⟩,rfl⟩;dsimp only)|skip)
  refine hK.out _ _ ?_ (fun hHeld=>?_)
  ·exact (RuBox.up HBX.out gw).1
  clear hK K
  try simp only[Act.put,setA,getA]
  refine tk 19 ?_
  try simp only[Act.put,setA,getA]
  refine tk 20 ?_
  try simp only[Act.put,setA,getA]
  refine tk 22 ?_
  refine tk 23 ?_
  refine tk 26 ?_
  try simp only[Act.put,setA,getA]
  refine tk 27 ?_
  try simp only[Act.put,setA,getA]
  refine wpAnyH_ready (rs:=[21]) (by kernel_rfl) (by simp) ?_
  refine AllReadyH.cons (o:=_) rfl (fun K hK=>?_) AllReadyH.nil
  go_simp
  (first|((go_at_call 71);(try clear q0 q1 q2 q3 q4 HF hix);(refine (forms_v _).mono ?_);rintro e Wn ⟨g,b1,b2,b3,b4,b5,rfl,hF,hgr⟩;have HGn:Hid (Grew W0 Wn):=hide (Grew.trans gw hgr);obtain⟨s,fv,bb,q0,q1,q2,q3,q4,HF⟩:=hat.out _ _ _ _ _ _ _ hF;have hix:=idx_run (cap:=6) (len:=6) (k:=q) (A:=some ⟨g,0,none⟩) (b:=g) (off:=0) Tryz.underlying103 Tryz.sizeOf102 rfl hq6;simp only[Nat.zero_add] at hix;clear hF hgr;dsimp only)|((go_at_call 90);(with_reducible refine (k1.out _ _ _ _ _ (HF.out _ gw)).mono ?_);rintro e w' ⟨rfl,⟨_,_⟩,rfl⟩;dsimp only)|((go_at_call 91);(with_reducible refine (k2.out _ _ _ _ _ _).mono ?_);rintro e w' ⟨rfl,⟨_,_⟩,rfl⟩;dsimp only)|skip)
  refine hK.out _ _ ?_ (fun hHeld=>?_)
  ·exact (RuBox.up HBX.out gw).1
  clear hK K
  try simp only[Act.put,setA,getA]
  refine tk 24 ?_
  try simp only[Act.put,setA,getA]
  refine wpAnyH_ready (rs:=[25]) (by kernel_rfl) (by simp) ?_
  refine AllReadyH.cons (o:=_) rfl (fun K hK=>?_) AllReadyH.nil
  go_simp
  (first|((go_at_call 71);(try clear q0 q1 q2 q3 q4 HF hix);(refine (forms_v _).mono ?_);rintro e Wn ⟨g,b1,b2,b3,b4,b5,rfl,hF,hgr⟩;have HGn:Hid (Grew W0 Wn):=hide (Grew.trans gw hgr);obtain⟨s,fv,bb,q0,q1,q2,q3,q4,HF⟩:=hat.out _ _ _ _ _ _ _ hF;have hix:=idx_run (cap:=6) (len:=6) (k:=q) (A:=some ⟨g,0,none⟩) (b:=g) (off:=0) Tryz.underlying103 Tryz.sizeOf102 rfl hq6;simp only[Nat.zero_add] at hix;clear hF hgr;dsimp only)|((go_at_call 90);(with_reducible refine (k1.out _ _ _ _ _ (HF.out _ gw)).mono ?_);rintro e w' ⟨rfl,⟨_,_⟩,rfl⟩;dsimp only)|((go_at_call 91);(with_reducible refine (k2.out _ _ _ _ _ _).mono ?_);rintro e w' ⟨rfl,⟨_,_⟩,rfl⟩;dsimp only)|skip)
  refine hK.out _ _ ?_ (fun hHeld=>?_)
  ·exact (RuBox.up HBX.out gw).1
  clear hK K
  try simp only[Act.put,setA,getA]
  refine wpAnyH_ready (rs:=[28]) (by kernel_rfl) (by simp) ?_
  refine AllReadyH.cons (o:=_) rfl (fun K hK=>?_) AllReadyH.nil
  go_simp
  (first|((go_at_call 71);(try clear q0 q1 q2 q3 q4 HF hix);(refine (forms_v _).mono ?_);rintro e Wn ⟨g,b1,b2,b3,b4,b5,rfl,hF,hgr⟩;have HGn:Hid (Grew W0 Wn):=hide (Grew.trans gw hgr);obtain⟨s,fv,bb,q0,q1,q2,q3,q4,HF⟩:=hat.out _ _ _ _ _ _ _ hF;have hix:=idx_run (cap:=6) (len:=6) (k:=q) (A:=some ⟨g,0,none⟩) (b:=g) (off:=0) Tryz.underlying103 Tryz.sizeOf102 rfl hq6;simp only[Nat.zero_add] at hix;clear hF hgr;dsimp only)|((go_at_call 90);(with_reducible refine (k1.out _ _ _ _ _ (HF.out _ gw)).mono ?_);rintro e w' ⟨rfl,⟨_,_⟩,rfl⟩;dsimp only)|((go_at_call 91);(with_reducible refine (k2.out _ _ _ _ _ _).mono ?_);rintro e w' ⟨rfl,⟨_,_⟩,rfl⟩;dsimp only)|skip)
  refine hK.out _ _ ?_ (fun hHeld=>?_)
  ·exact (RuBox.up HBX.out gw).1
  clear hK K
  try simp only[Act.put,setA,getA]
  refine tk 29 ?_
  try simp only[Act.put,setA,getA]
  refine tk 30 ?_
  try simp only[Act.put,setA,getA]
  refine wpAnyH_done (by kernel_rfl) ?_ _
  go_wp2_with fail
  go_ret
  exact Ret.mk' rfl (HG0.out.trans gw)
theorem isRule_v (o k n:Int)(r:Bool)(w:World)(h:ruleOk o k n=r):Calls Tryz.prog 68 #[ruV o k n] w (Ret w (.bool r)):=by
 have hcase:o<1∨6≤o∨(1≤o∧o≤5):=by omega
 rcases hcase with h0|h0|h0
 ·obtain rfl:r=false:=by
   rw[←h]
   unfold ruleOk
   rw[decide_eq_false (by omega)]
   rfl
  exact isRule_low o k n w h0
 ·obtain rfl:r=false:=by
   rw[←h]
   unfold ruleOk
   rw[decide_eq_false (by omega)]
   rfl
  exact isRule_high o k n w h0
 ·obtain⟨q,rfl⟩:∃q:Nat,o=(q:Int):=⟨o.toNat,by omega⟩
  exact isRule_mid q (by omega) k n r w h
end Go.Proofs.YtblgdlnmabkpoaaGreat

