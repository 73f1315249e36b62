import Derived.Test.YtblgdlnmabkpoaaGreatRmX
import Derived.Test.YtblgdlnmabkpoaaGreatRfX
import Derived.Test.YtblgdlnmabkpoaaGreatRuY
import Derived.Test.YtblgdlnmabkpoaaGreatRuI
/- The reference implementation of package rule: Apply. -/
set_option linter.unusedSimpArgs false
set_option linter.unusedVariables false
namespace Go.Proofs.YtblgdlnmabkpoaaGreat
open Go.RowKit Go.Sort
attribute [local go_sem] Steady steadyUpon
attribute [local go_sem ↓] hs_dr lt_add_r lt_add_r2 lt_add_r3 lt_add_r4 lt_add_r5 lt_add_r6
attribute [local go_sem] cell?_gd frozen?_gd setCell_gd size_grow tape_grow cell?_grow' frozen?_grow' setCell_grow' grow_grow grow_dr grow_drew dr_dr dr_drew drew_dr dr_alloc dr_setCell dr_cell dr_frozen dr_tape dr_drawn
attribute [local irreducible] wpSteady
/-- What the reference puts in a feature's place. -/
def rpart (o k n:Int)(kept:List FV)(f:FV):List FV:=(if o≠3∨f.kind≠k then [chg o k n f] else [])++kept.filter (fun g=>g.id==f.id)
def rappTo (o k n:Int)(kept fs:List FV)(i:Nat):List FV:=(fs.take i).flatMap (rpart o k n kept)
def rkeptL (o k n:Int)(fs:List FV):List FV:=if o=3 then rkOf k n fs else []
def rapplyL (o k n:Int)(fs:List FV):List FV:=fs.flatMap (rpart o k n (rkeptL o k n fs))
def rapplyOf (o k n:Int)(fs:List FV):List FV×Int:=if (ruleOk o k n&&FList fs)=true then (if FList (rapplyL o k n fs)=true then (rapplyL o k n fs,0) else ([],3)) else ([],1)
theorem rapp_succ {o k n:Int}{kept fs:List FV}{i:Nat}(h:i<fs.length):rappTo o k n kept fs (i+1)=rappTo o k n kept fs i++rpart o k n kept (fAt fs i):=by
 unfold rappTo
 rw[List.take_add_one,fAt_get h,List.flatMap_append]
 simp
theorem rpart_len (o k n:Int)(kept:List FV)(f:FV):(rpart o k n kept f).length≤1+kept.length:=by
 unfold rpart
 rw[List.length_append]
 have:=List.length_filter_le (fun g:FV=>g.id==f.id) kept
 split<;>simp<;>omega
theorem rapp_len (o k n:Int)(kept fs:List FV):∀i,(rappTo o k n kept fs i).length≤i*(1+kept.length)
 | 0=>by simp[rappTo]
 | i+1=>by
  have ih:=rapp_len o k n kept fs i
  by_cases h:i<fs.length
  ·rw[rapp_succ h,List.length_append,Nat.succ_mul]
   have:=rpart_len o k n kept (fAt fs i)
   omega
  ·have e:rappTo o k n kept fs (i+1)=rappTo o k n kept fs i:=by
    unfold rappTo
    rw[List.take_of_length_le (by omega),List.take_of_length_le (by omega)]
   rw[e,Nat.succ_mul]
   omega
/-- The lists of features can be read, whatever happens in a row of their own. -/
def AllS (W:World)(r:Option Nat)(L:List FV):Prop:=∀f,f∈L→∀W2,W.grownBy W2 r→f.rd W2 W2.heap.size
theorem AllS.grew {W W':World}{r:Option Nat}{L:List FV}(h:AllS W r L)(g:Grew W W'):AllS W' r L:=fun f hf W2 k=>h f hf W2 (gb_trans (g.grownBy _) k)
theorem AllS.app {W W':World}{r r':Option Nat}{L:List FV}(h:AllS W r L)(g:W.grownBy W' r)(hr:r'=r∨r'=some W.heap.size):AllS W' r' L:=fun f hf W2 k=>by
 rcases hr with rfl|rfl
 ·exact h f hf W2 (gb_trans g k)
 ·refine h f hf W2 ⟨k.os.trans g.os,k.tape.trans g.tape,k.output.trans g.output,Nat.le_trans g.size k.size,fun b hb hne=>(k.block b (Nat.lt_of_lt_of_le hb g.size) (fun e=>by injection e with e;omega)).trans (g.block b hb hne)⟩
theorem AllS.add {W:World}{r:Option Nat}{L M:List FV}(h:AllS W r L)(k:AllS W r M):AllS W r (L++M):=fun f hf=>(List.mem_append.1 hf).elim (h f) (k f)
theorem AllS.nil (W:World)(r:Option Nat):AllS W r []:=fun f hf=>by cases hf
theorem AllS.of {W W':World}{r:Option Nat}{f:FV}(h:f.rd W W.heap.size)(g:Grew W W')(hr:∀b,r=some b→W.heap.size≤b):AllS W' r [f]:=fun x hx W2 k=>by
 rw[List.mem_singleton.1 hx]
 have hb:Below W.heap.size W W2:=g.below.grown k g.below.size hr
 exact⟨(h.area.below hb).mono hb.size,(h.secs.below hb).mono hb.size,h.la,h.ls,h.lc⟩
theorem rk_src {ds:List FV}{n:Int}:∀m,m≤ds.length→∀g,g∈rkTo n ds m→∃f∈ds,g={ f with rad:=g.rad }
 | 0,_=>fun g hg=>by simp[rkTo] at hg
 | m+1,h=>by
  have ih:=rk_src (ds:=ds) (n:=n) m (by omega)
  rw[rkTo_succ (by omega)]
  intro g hg
  unfold rkStep at hg
  split at hg
  ·rcases List.mem_append.1 hg with hg|hg
   ·exact ih g hg
   ·rw[List.mem_singleton.1 hg]
    exact⟨_,fAt_mem (by omega),rfl⟩
  ·rename_i k hk
   rcases List.mem_or_eq_of_mem_set hg with hg|hg
   ·exact ih g hg
   ·obtain⟨f,hf,e⟩:=ih _ (fAt_mem (List.findIdx?_eq_some_iff_getElem.1 hk).1)
    rw[hg]
    unfold rjoinF
    split
    ·exact⟨f,hf,e⟩
    ·exact⟨f,hf,by rw[e]⟩
theorem rkOf_src {k n:Int}{fs:List FV}:∀g,g∈rkOf k n fs→∃f∈fs,g={ f with rad:=g.rad }:=fun g hg=>by
 obtain⟨f,hf,e⟩:=rk_src _ (Nat.le_refl _) g hg
 exact⟨f,(List.mem_filter.1 (byD_mem f hf)).1,e⟩
theorem rkOf_len (k n:Int)(fs:List FV):(rkOf k n fs).length≤fs.length:=by
 have h1:=rk_len (n:=n) (ds:=byD (fs.filter (isKind k))) _ (Nat.le_refl _)
 have h2:=byD_len (fs.filter (isKind k))
 have h3:=List.length_filter_le (isKind k) fs
 unfold rkOf
 omega
/-- What Apply's loops hold. -/
structure RA (w0 W:World) (v:Value) (l:List FV):Prop where
 ex:∃L:List FV,W.ownsRow w0.heap.size 54 9 v L.length (L.flatMap FV.cells)∧L.map FV.bare=l.map FV.bare∧AllS W v.ownBlock L
 g:Grew w0 W
theorem RA.up {w0 W W':World}{v:Value}{l:List FV}(h:RA w0 W v l)(g:Grew W W'):RA w0 W' v l:=by
 obtain⟨⟨L,h1,h2,h3⟩,h4⟩:=h
 exact⟨⟨L,fown_grew h1 g,h2,h3.grew g⟩,h4.trans g⟩
theorem RA.slice {w0 W:World}{v:Value}{l:List FV}(h:RA w0 W v l):∃A c,v=.slice A l.length c:=by
 obtain⟨⟨L,h1,h2,_⟩,_⟩:=h
 obtain⟨A,c,rfl,_⟩:=fown_slice h1
 exact⟨A,c,by rw[len_of h2]⟩
theorem RA.app {w0 W W':World}{v v':Value}{l:List FV}{L:List FV}{f' t:FV}(h1:W.ownsRow w0.heap.size 54 9 v L.length (L.flatMap FV.cells))(h2:L.map FV.bare=l.map FV.bare)(h3:AllS W v.ownBlock L)(h4:Grew w0 W)
  (hf:AllS W v.ownBlock [f']) (hb:f'.bare=t.bare) (ho:W'.ownsRow w0.heap.size 54 9 v' (L.length+1) (L.flatMap FV.cells++[f'].flatMap FV.cells)) (hg:W.grownBy W' v.ownBlock) (hr:v'.ownBlock=v.ownBlock∨v'.ownBlock=some W.heap.size):RA w0 W' v' (l++[t]):=by
 refine⟨⟨L++[f'],by rw[List.length_append,List.flatMap_append];exact ho,by rw[List.map_append,List.map_append,h2];simp[hb],(h3.add hf).app hg hr⟩,ggrown h4 h1 (Nat.le_refl _) hg⟩
set_option maxHeartbeats 16000000
set_option maxRecDepth 100000
theorem gb_none {W W':World}(h:W.grownBy W' none):Grew W W':=Grew.of_below ((Below.refl W.heap.size W).grown h (Nat.le_refl _) fun q hq=>by cases hq)
theorem AllS.chg {W Wc:World}{r:Option Nat}{f' x:FV}(hS:∀g W2,g<W.heap.size→FSt W g x→Wc.grownBy W2 (some g)→f'.rd W2 W2.heap.size)(hfr:f'.rd Wc Wc.heap.size)(hst:∀g,r=some g→g<W.heap.size∧FSt W g x):AllS Wc r [f']:=fun y hy W2 k=>by
 rw[List.mem_singleton.1 hy]
 cases r with
 | none=>exact hfr.up (gb_none k)
 | some g=>exact hS g W2 (hst g rfl).1 (hst g rfl).2 k
theorem RA.put {w0 W W':World}{v v':Value}{l L:List FV}{f' t:FV}(h1:W.ownsRow w0.heap.size 54 9 v L.length (L.flatMap FV.cells))(h2:L.map FV.bare=l.map FV.bare)(h3:AllS W v.ownBlock L)(h4:Grew w0 W)
  (hf:AllS W v.ownBlock [f']) (hb:f'.bare=t.bare) (ho:W'.ownsRow w0.heap.size 54 9 v' (L.length+1) (L.flatMap FV.cells++[f'].flatMap FV.cells)) (hg:W.grownBy W' v.ownBlock) (hr:v'.ownBlock=v.ownBlock∨v'.ownBlock=some W.heap.size) {l':List FV} (hl:l'=l++[t]):RA w0 W' v' l':=by
 rw[hl]
 exact RA.app h1 h2 h3 h4 hf hb ho hg hr
theorem rApply_v (o k n:Int)(fs:List FV)(A:Option Addr)(c:Nat)(w:World)(hr:FRd w w.heap.size A fs)(hc:fs.length≤100000000000000) :
  Calls Tryz.prog 56 #[ruV o k n,.slice A fs.length c] w (FeatR w (rapplyOf o k n fs)):=by
 have hm:=hmix
 obtain⟨u1,hu1⟩:∃u,ruleOk o k n=u:=⟨_,rfl⟩
 obtain⟨u2,hu2⟩:∃u,FList fs=u:=⟨_,rfl⟩
 have k1:=hide (fun W=>rRule_v o k n u1 W hu1)
 have k2:=hide (fun W (hg:Grew w W)=>v7List_v fs A c u2 W (hr.up hg) hc hu2)
 have HR:=hide hr
 unfold rapplyOf
 rw[hu1,hu2]
 by_cases hbad:u1=true∧u2=true
 ·obtain⟨rfl,rfl⟩:=hbad
  rw[if_pos (by rfl)]
  obtain⟨rs,hrs⟩:∃r:List FV×Int,(if FList (rapplyL o k n fs)=true then (rapplyL o k n fs,(0:Int)) else ([],3))=r:=⟨_,rfl⟩
  rw[hrs]
  have HRS:=hide hrs
  clear hrs
  have hlen:=list_len hu2
  obtain⟨i0,hi,hz0,hz1,hz2⟩:=fInfo_parts feInf
  have HO1:=hide hu1
  have HL:=hide hu2
  have hrp:=rok_partsG hu1
  have ht:=hide (fun W (hg:Grew w W)=>rthin_v o k n fs A c W ((hr.up hg).row) hu2 hrp.2.1)
  have HFD:=hide (fun f (hf:f∈fs)=>valid_dep (list_valid hu2 f hf))
  clear hr hu1 hu2
  by_cases ho3:o=3
  ·subst ho3
   have hke:rkeptL 3 k n fs=rkOf k n fs:=if_pos rfl
   have hkl:=rkOf_len k n fs
   have HKS:=hide (fun g (hg:g∈rkOf k n fs)=>by
    obtain⟨f,hf,e⟩:=rkOf_src g hg
    have h:=HR.out.each f hf
    exact (show g.rd w w.heap.size from by rw[e];exact⟨h.area,h.secs,h.la,h.ls,h.lc⟩))
   have HAL:Hid (rapplyL 3 k n fs=rappTo 3 k n (rkOf k n fs) fs fs.length):=hide (by unfold rapplyL rappTo;rw[hke,List.take_length])
   go_enter Tryz.func56,Tryz.ntmps56
   go_wp2_with (first|(go_at_call 72;with_reducible refine crv (k1.out _) fun _ _=>?_;dsimp only)|(go_at_call 45;with_reducible refine crv (k2.out _ gw) fun _ _=>?_;dsimp only))
   refine calls_nm ?_
   intro X hX
   have HB:Hid (RuBox X w.heap.size 3 k n):=hide (by rw[←hX];exact (RuBox.new w 3 k n).up gw)
   have HGX:Hid (Grew w X):=hide (by rw[←hX];exact gw)
   clear hX
   refine (ht.out X HGX.out).mono ?_
   rintro e W1 ⟨A1,c1,rfl,hrd,hg,_⟩
   have HG1:=hide (HGX.out.trans hg)
   have HB1:=hide (HB.out.up hg)
   have HK:=hide hrd
   obtain⟨kept,hkk⟩:∃l,rkOf k n fs=l:=⟨_,rfl⟩
   rw[hkk] at HK HKS HAL hkl
   rw[hkk]
   clear hg hrd hke hkk HB ht k1 k2
   dsimp only
   go_wp2_with fail
   refine wp_name ?_
   intro W0 hW
   have HG0:Hid (Grew w W0):=hide (by rw[←hW];exact HG1.out.trans gw)
   have HB0:Hid (RuBox W0 w.heap.size 3 k n):=hide (by rw[←hW];exact HB1.out.up gw)
   have HK0:Hid (Rd W0 W0.heap.size 9 A1 (kept.map FV.cells)):=hide (by rw[←hW];exact HK.out.up gw)
   clear hW HG1 HB1 HK
   go_loopw [9,10] (fun v i wr=>∃q:Nat,q≤fs.length∧i=.int .i64 q∧RA W0 wr v (rappTo 3 k n kept fs q)) (fun _ i _=>fs.length-(intOf i).toNat)
   case atStart=>exact⟨0,by omega,rfl,⟨⟨[],World.ownsRow_nil _ _ _ _,rfl,AllS.nil _ _⟩,gw⟩⟩
   case round =>
    obtain⟨q,hq,rfl,hra⟩:=hrel
    have HA:=hide hra
    by_cases hlt:q<fs.length
    ·obtain⟨Av,cv,rfl⟩:=hra.slice
     obtain⟨⟨L,hown,hbr,has⟩,hgr⟩:=hra
     obtain⟨⟨r0,r1,r2⟩,rl⟩:=HB0.out.up hgr
     obtain⟨b1,off1,hA1,hb1,fx⟩:=rowAt (HR.out.row.up HG0.out) hlt
     have hix1:=idx_run (cap:=c) Tryz.underlying22 Tryz.sizeOf54 hA1.out hlt
     have hsu:=rapp_succ (o:=3) (k:=k) (n:=n) (kept:=kept) hlt
     have hrr:=HR.out.each _ (fAt_mem hlt)
     have hdp:=HFD.out _ (fAt_mem hlt)
     have hll:(rappTo 3 k n kept fs q).length≤300*301:=Nat.le_trans (rapp_len 3 k n kept fs q) (Nat.mul_le_mul (by omega) (by have:=hkl;omega))
     obtain⟨x,hx⟩:∃x,fAt fs q=x:=⟨_,rfl⟩
     obtain⟨l,hl⟩:∃l,rappTo 3 k n kept fs q=l:=⟨_,rfl⟩
     rw[hx] at fx hsu hrr hdp
     rw[hl] at hsu HA hll hbr hown has
     rw[hl]
     have hLL:=len_of hbr
     have FX:=hide fx
     obtain⟨c0,c1',c2,c3,c4,c5,c6,c7,c8⟩:=fx.up hgr hb1
     have hb1w:b1<wr.heap.size:=Nat.lt_of_lt_of_le hb1 hgr.below.size
     have HSU:=hide hsu
     have HBR:=hide hbr
     have HAS:=hide has
     have HO:=hide hown
     have HG:=hide hgr
     have hL3:L.length≤300*301:=by omega
     have HLT:Hid (∀g,(Value.slice Av l.length cv).ownBlock=some g→W0.heap.size≤g∧g<wr.heap.size):=hide (fun g h=>HO.out.lt g h)
     have HW0:Hid (w.heap.size≤W0.heap.size):=hide HG0.out.below.size
     have HST:Hid (∀W,Grew wr W→∀g,(Value.slice Av l.length cv).ownBlock=some g→g<W.heap.size∧FSt W g x):=hide (fun W hg g h=>⟨by have:=HLT.out g h;have:=hg.below.size;omega,by
      have hb:=(HG0.out.trans (HG.out.trans hg)).below
      exact FSt.of (B:=w.heap.size) ⟨hrr.area.below hb,hrr.secs.below hb,hrr.la,hrr.ls,hrr.lc⟩ (by have:=HG.out.below.size;have:=hg.below.size;have:=HW0.out;omega) (by have:=HLT.out g h;have:=HW0.out;omega)⟩)
     have kc:=hide (fun W (hg:Grew wr W)=>rchange_v 3 k n x W (by
      have hb:=(HG0.out.trans (HG.out.trans hg)).below
      exact⟨(hrr.area.below hb).mono hb.size,(hrr.secs.below hb).mono hb.size,hrr.la,hrr.ls,hrr.lc⟩) HO1.out hdp)
     have HDP:=hide hdp
     obtain⟨t,ht⟩:∃t,chg 3 k n x=t:=⟨_,rfl⟩
     rw[ht] at kc
     have HT:=hide ht
     have hKS:Hid (∀W',Grew W0 W'→(W'.cell? ⟨w.heap.size,0,none⟩=some (.int .i64 3)∧W'.cell? ⟨w.heap.size,1,none⟩=some (.int .i64 k)∧W'.cell? ⟨w.heap.size,2,none⟩=some (.int .i64 n)∧W'.cell? ⟨b1,off1+q*9,none⟩=some (.int .i64 x.id)∧W'.cell? ⟨b1,off1+q*9+1,none⟩=some (.int .i64 x.kind)∧W'.cell? ⟨b1,off1+q*9+2,none⟩=some (.int .i64 x.x)∧W'.cell? ⟨b1,off1+q*9+3,none⟩=some (.int .i64 x.y)∧W'.cell? ⟨b1,off1+q*9+4,none⟩=some (.int .i64 x.rad)∧W'.cell? ⟨b1,off1+q*9+5,none⟩=some (.slice x.aA x.area.length x.ac)∧W'.cell? ⟨b1,off1+q*9+6,none⟩=some (.int .i64 x.dep)∧W'.cell? ⟨b1,off1+q*9+7,none⟩=some (.int .i64 x.sym)∧W'.cell? ⟨b1,off1+q*9+8,none⟩=some (.slice x.sA x.secs.length x.sc))):=hide (fun W' g=>by
      obtain⟨⟨r0,r1,r2⟩,_⟩:=HB0.out.up g
      obtain⟨d0,d1,d2,d3,d4,d5,d6,d7,d8⟩:=FX.out.up g hb1
      exact⟨r0,r1,r2,d0,d1,d2,d3,d4,d5,d6,d7,d8⟩)
     clear hA1 hx hl hsu hrr hbr hown hgr hdp ht has fx
     by_cases hk:x.kind=k
     ·have hkb:(x.kind != k)=false:=by simpa using hk
      have hrp3:Hid (rpart 3 k n kept x=kept.filter (fun g=>g.id==x.id)):=hide (by
       unfold rpart
       rw[if_neg (by simp[hk]),List.nil_append])
      clear kc
      go_wp2_with fail
      refine wp_region_qas 13 [] [] hm (h:=?_)
      repeat (refine wpSteady_step (fun K hK=>?_);go_simp;refine hK _ ?_;clear hK K)
      refine rq0 fun nq osq=>?_
      try simp only[Act.put,setA]
      try dsimp only
      go_wp2_with fail
      go_loopw [9,11] (fun v i wr=>∃p:Nat,p≤kept.length∧i=.int .i64 p∧RA W0 wr v (l++(kept.take p).filter (fun g=>g.id==x.id))) (fun _ i _=>kept.length-(intOf i).toNat)
      case atStart=>exact⟨0,by omega,rfl,(by rw[List.take_zero,List.filter_nil,List.append_nil];exact HA.out.up gw)⟩
      case round =>
       obtain⟨p,hp,rfl,hra⟩:=hrel
       have HA2:=hide hra
       obtain⟨c0,c1',c2,c3,c4,c5,c6,c7,c8⟩:=FX.out.up hra.g hb1
       have hb1x:b1<wr.heap.size:=Nat.lt_of_lt_of_le hb1 hra.g.below.size
       by_cases hpl:p<kept.length
       ·obtain⟨A8,cv8,rfl⟩:=hra.slice
        obtain⟨⟨L8,hown8,hbr8,has8⟩,hgr8⟩:=hra
        obtain⟨b2,off2,hA2,hb2,fy⟩:=rowAt HK0.out hpl
        have hix2:=idx_run (cap:=c1) Tryz.underlying22 Tryz.sizeOf54 hA2.out hpl
        have hry:=HKS.out _ (fAt_mem hpl)
        have hfs:(kept.take (p+1)).filter (fun g=>g.id==x.id)=(kept.take p).filter (fun g=>g.id==x.id)++if (fAt kept p).id==x.id then [fAt kept p] else []:=by
         rw[List.take_add_one,fAt_get hpl,List.filter_append]
         simp[List.filter_cons]
        have hl8:((kept.take p).filter (fun g=>g.id==x.id)).length≤300:=by
         have:=List.length_filter_le (fun g:FV=>g.id==x.id) (kept.take p)
         rw[List.length_take] at this
         omega
        obtain⟨y,hy⟩:∃y,fAt kept p=y:=⟨_,rfl⟩
        rw[hy] at fy hry hfs
        obtain⟨fl,hfl⟩:∃fl,(kept.take p).filter (fun g=>g.id==x.id)=fl:=⟨_,rfl⟩
        rw[hfl] at hown8 hbr8 has8 hfs hl8 HA2
        rw[hfl]
        have hL8:=len_of hbr8
        rw[List.length_append] at hL8
        obtain⟨d0,d1,d2,d3,d4,d5,d6,d7,d8⟩:=fy.up hgr8 hb2
        have hb2x:b2<wr.heap.size:=Nat.lt_of_lt_of_le hb2 hgr8.below.size
        have HFY:=hide fy
        have HRY:=hide hry
        have HFS:=hide hfs
        obtain⟨ln,hln⟩:∃l',l++fl=l':=⟨_,rfl⟩
        have HLN:=hide hln
        rw[hln] at hown8 hbr8 has8 HA2
        rw[hln]
        have hLL8:L8.length=ln.length:=len_of hbr8
        have HO8:=hide hown8
        have HBR8:=hide hbr8
        have HAS8:=hide has8
        have HG8:=hide hgr8
        have HLT8:Hid (∀g,(Value.slice A8 ln.length cv8).ownBlock=some g→w.heap.size≤g):=hide (fun g h=>Nat.le_trans HW0.out (HO8.out.lt g h).1)
        obtain⟨Wr,hWr⟩:∃W,W=wr:=⟨wr,rfl⟩
        clear hA2 hy hfl hry hfs fy hln hown8 hbr8 has8 hgr8
        by_cases hid:y.id=x.id
        ·have hidb:(y.id==x.id)=true:=by simpa using hid
         have hfs2:=HFS.out
         rw[if_pos hidb] at hfs2
         have HFS2:=hide hfs2
         clear hfs2 hWr
         go_wp2_with fail
         refine wp_region_qas 11 [] [] hm (h:=?_)
         repeat (refine wpSteady_step (fun K hK=>?_);go_simp;refine hK _ ?_;clear hK K)
         refine rq0 fun nq osq=>?_
         try simp only[Act.put,setA]
         try dsimp only
         go_wp2_with (at_builtin;refine AppG3.stop ?_)
         refine AppG3.go ?_
         refine wpList_append_any _ rfl (.tmp 74) (.tmp 79) _ rfl W0.heap.size 54 i0 _ 9 104 Tryz.underlying22 hi hz0 hz1 hz2 rfl (by omega) _ L8.length (L8.flatMap FV.cells) rfl (fown_grew HO8.out gw) _ (some ⟨_,0,none⟩) 1 1 ([y].flatMap FV.cells) rfl (Rd.reads fv_len (by omega) (by rw[←hid];exact Rd.lit1 _ y _ (by first|rfl|simp[hs_dr]))) (fv_one _) (by simp only[maxLen];omega) (by omega) (by have:=HG8.out.below.size;(try simp[hs_dr]);omega) ?_
         intro v' w1 hown1 hg1 hv1
         have HRA2:Hid (RA W0 w1 v' (ln++[y])):=hide (RA.put (fown_grew HO8.out gw) HBR8.out (HAS8.out.grew gw) (HG8.out.trans gw) (AllS.of HRY.out (HG0.out.trans (HG8.out.trans gw)) HLT8.out) rfl hown1 hg1 hv1 rfl)
         clear hown1 hg1 hv1
         go_wp2_with fail
         go_roundw
         case rel=>exact⟨p+1,by omega,by go_num,by rw[HFS2.out,←List.append_assoc,HLN.out];exact HRA2.out.up gw⟩
         case measure=>simp[intOf];omega
        ·have hidb:(y.id==x.id)=false:=by simpa using hid
         have hfs2:=HFS.out
         rw[if_neg (by rw[hidb];simp),List.append_nil] at hfs2
         have HFS2:=hide hfs2
         clear hfs2 hWr
         go_wp2_with fail
         refine wp_region_qas 11 [] [] hm (h:=?_)
         repeat (refine wpSteady_step (fun K hK=>?_);go_simp;refine hK _ ?_;clear hK K)
         refine rq0 fun nq osq=>?_
         try simp only[Act.put,setA]
         try dsimp only
         go_wp2_with fail
         go_roundw
         case rel=>exact⟨p+1,by omega,by go_num,by rw[HFS2.out,HLN.out];exact HA2.out.up gw⟩
         case measure=>simp[intOf];omega
       ·obtain rfl:p=kept.length:=by omega
        clear hra
        go_wp2_with fail
        go_roundw
        case rel=>exact⟨q+1,by omega,by go_num,by
         rw[HSU.out,hrp3.out]
         have h:=HA2.out
         rw[List.take_length] at h
         exact h.up gw⟩
        case measure=>simp[intOf];omega
     ·have hkb:(x.kind != k)=true:=by simpa using hk
      have hrp3:Hid (rpart 3 k n kept x=[t]++kept.filter (fun g=>g.id==x.id)):=hide (by
       unfold rpart
       rw[if_pos (Or.inr hk),HT.out])
      go_wp2_with fail
      refine wp_region_qas 13 [] [] hm (h:=?_)
      repeat (refine wpSteady_step (fun K hK=>?_);go_simp;refine hK _ ?_;clear hK K)
      refine rq0 fun nq osq=>?_
      try simp only[Act.put,setA]
      try dsimp only
      go_wp2_with fail
      refine wp_region_held_drew (S:=(fun W'=>W'.cell? ⟨w.heap.size,0,none⟩=some (.int .i64 3)∧W'.cell? ⟨w.heap.size,1,none⟩=some (.int .i64 k)∧W'.cell? ⟨w.heap.size,2,none⟩=some (.int .i64 n)∧W'.cell? ⟨b1,off1+q*9,none⟩=some (.int .i64 x.id)∧W'.cell? ⟨b1,off1+q*9+1,none⟩=some (.int .i64 x.kind)∧W'.cell? ⟨b1,off1+q*9+2,none⟩=some (.int .i64 x.x)∧W'.cell? ⟨b1,off1+q*9+3,none⟩=some (.int .i64 x.y)∧W'.cell? ⟨b1,off1+q*9+4,none⟩=some (.int .i64 x.rad)∧W'.cell? ⟨b1,off1+q*9+5,none⟩=some (.slice x.aA x.area.length x.ac)∧W'.cell? ⟨b1,off1+q*9+6,none⟩=some (.int .i64 x.dep)∧W'.cell? ⟨b1,off1+q*9+7,none⟩=some (.int .i64 x.sym)∧W'.cell? ⟨b1,off1+q*9+8,none⟩=some (.slice x.sA x.secs.length x.sc))) hm ?_ (fun hHeld=>?_)
      ·(first|exact hKS.out _ (HRA.out.g)|exact hKS.out _ (HG.out.trans gw))
      refine tk 0 ?_
      refine tk 1 ?_
      refine tk 2 ?_
      refine tk 3 ?_
      try simp only[Act.put,setA,getA]
      refine tk 4 ?_
      try simp only[Act.put,setA,getA]
      refine tk 5 ?_
      try simp only[Act.put,setA,getA]
      refine wpAnyH_ready (rs:=[6]) (by kernel_rfl) (by simp) ?_
      refine AllReadyH.cons (o:=_) rfl (fun K hK=>?_) AllReadyH.nil
      go_simp
      first|((go_at_call 74);(refine (kc.out _ gw).mono ?_);rintro e Wn ⟨f',rfl,hfb,hfr,hgn,hfs⟩;have HFB:=hide hfb;have HAC:=hide (AllS.chg hfs hfr (HST.out _ gw));have HGN:=hide (Grew.trans (a:=wr) gw hgn);clear hfb hfr hgn hfs;dsimp only)|(with_reducible show K _ _)|((refine step_append_any _ rfl (.tmp 48) (.tmp 55) _ rfl W0.heap.size 54 i0 _ 9 104 Tryz.underlying22 hi hz0 hz1 hz2 rfl (by omega) _ L.length (L.flatMap FV.cells) rfl (fown_grew HO.out gw) _ (some ⟨_,0,none⟩) 1 1 ([f'].flatMap FV.cells) rfl ((Rd.lit1 _ f' _ (by simp[hs_dr])).reads fv_len (by omega)) (fv_one _) (by simp only[maxLen];omega) (by omega) (by have:=HG.out.below.size;have:=HGN.out.below.size;simp[hs_dr];omega) ?_);(intro v' w1 hown1 hg1 hv1);have HRA:Hid (RA W0 w1 v' (l++[t])):=hide (RA.put (fown_grew HO.out gw) HBR.out (HAS.out.grew gw) (HG.out.trans gw) (HAC.out.grew gw) HFB.out hown1 hg1 hv1 rfl);clear hown1 hg1 hv1)
      refine hK.out _ _ ?_ (fun hHeld=>?_)
      ·(first|exact hKS.out _ (HRA.out.g)|exact hKS.out _ (HG.out.trans gw))
      clear hK K
      try simp only[Act.put,setA,getA]
      refine wpAnyH_ready (rs:=[7]) (by kernel_rfl) (by simp) ?_
      refine AllReadyH.cons (o:=_) rfl (fun K hK=>?_) AllReadyH.nil
      go_simp
      first|((go_at_call 74);(refine (kc.out _ gw).mono ?_);rintro e Wn ⟨f',rfl,hfb,hfr,hgn,hfs⟩;have HFB:=hide hfb;have HAC:=hide (AllS.chg hfs hfr (HST.out _ gw));have HGN:=hide (Grew.trans (a:=wr) gw hgn);clear hfb hfr hgn hfs;dsimp only)|(with_reducible show K _ _)|((refine step_append_any _ rfl (.tmp 48) (.tmp 55) _ rfl W0.heap.size 54 i0 _ 9 104 Tryz.underlying22 hi hz0 hz1 hz2 rfl (by omega) _ L.length (L.flatMap FV.cells) rfl (fown_grew HO.out gw) _ (some ⟨_,0,none⟩) 1 1 ([f'].flatMap FV.cells) rfl ((Rd.lit1 _ f' _ (by simp[hs_dr])).reads fv_len (by omega)) (fv_one _) (by simp only[maxLen];omega) (by omega) (by have:=HG.out.below.size;have:=HGN.out.below.size;simp[hs_dr];omega) ?_);(intro v' w1 hown1 hg1 hv1);have HRA:Hid (RA W0 w1 v' (l++[t])):=hide (RA.put (fown_grew HO.out gw) HBR.out (HAS.out.grew gw) (HG.out.trans gw) (HAC.out.grew gw) HFB.out hown1 hg1 hv1 rfl);clear hown1 hg1 hv1)
      refine hK.out _ _ ?_ (fun hHeld=>?_)
      ·(first|exact hKS.out _ (HRA.out.g)|exact hKS.out _ (HG.out.trans gw))
      clear hK K
      try simp only[Act.put,setA,getA]
      refine wpAnyH_ready (rs:=[8]) (by kernel_rfl) (by simp) ?_
      refine AllReadyH.cons (o:=_) rfl (fun K hK=>?_) AllReadyH.nil
      first|((go_at_call 74);(refine (kc.out _ gw).mono ?_);rintro e Wn ⟨f',rfl,hfb,hfr,hgn,hfs⟩;have HFB:=hide hfb;have HAC:=hide (AllS.chg hfs hfr (HST.out _ gw));have HGN:=hide (Grew.trans (a:=wr) gw hgn);clear hfb hfr hgn hfs;dsimp only)|(with_reducible show K _ _)|((refine step_append_any _ rfl (.tmp 48) (.tmp 55) _ rfl W0.heap.size 54 i0 _ 9 104 Tryz.underlying22 hi hz0 hz1 hz2 rfl (by omega) _ L.length (L.flatMap FV.cells) rfl (fown_grew HO.out gw) _ (some ⟨_,0,none⟩) 1 1 ([f'].flatMap FV.cells) rfl ((Rd.lit1 _ f' _ (by simp[hs_dr])).reads fv_len (by omega)) (fv_one _) (by simp only[maxLen];omega) (by omega) (by have:=HG.out.below.size;have:=HGN.out.below.size;simp[hs_dr];omega) ?_);(intro v' w1 hown1 hg1 hv1);have HRA:Hid (RA W0 w1 v' (l++[t])):=hide (RA.put (fown_grew HO.out gw) HBR.out (HAS.out.grew gw) (HG.out.trans gw) (HAC.out.grew gw) HFB.out hown1 hg1 hv1 rfl);clear hown1 hg1 hv1)
      refine hK.out _ _ ?_ (fun hHeld=>?_)
      ·(first|exact hKS.out _ (HRA.out.g)|exact hKS.out _ (HG.out.trans gw))
      clear hK K
      try simp only[Act.put,setA,getA]
      refine tk 9 ?_
      try simp only[Act.put,setA,getA]
      refine wpAnyH_done (by kernel_rfl) ?_ _
      clear hHeld
      go_wp2_with fail
      clear kc
      have hl3:(l++[t]).length≤300*301+1:=by rw[List.length_append];simp;omega
      obtain⟨lm,hlm⟩:∃lm,l++[t]=lm:=⟨_,rfl⟩
      have HLM:=hide hlm
      rw[hlm] at HRA hl3
      clear hlm
      go_loopw [9,11] (fun v i wr=>∃p:Nat,p≤kept.length∧i=.int .i64 p∧RA W0 wr v (lm++(kept.take p).filter (fun g=>g.id==x.id))) (fun _ i _=>kept.length-(intOf i).toNat)
      case atStart=>exact⟨0,by omega,rfl,(by rw[List.take_zero,List.filter_nil,List.append_nil];exact HRA.out.up gw)⟩
      case round =>
       obtain⟨p,hp,rfl,hra⟩:=hrel
       have HA2:=hide hra
       obtain⟨c0,c1',c2,c3,c4,c5,c6,c7,c8⟩:=FX.out.up hra.g hb1
       have hb1x:b1<wr.heap.size:=Nat.lt_of_lt_of_le hb1 hra.g.below.size
       by_cases hpl:p<kept.length
       ·obtain⟨A8,cv8,rfl⟩:=hra.slice
        obtain⟨⟨L8,hown8,hbr8,has8⟩,hgr8⟩:=hra
        obtain⟨b2,off2,hA2,hb2,fy⟩:=rowAt HK0.out hpl
        have hix2:=idx_run (cap:=c1) Tryz.underlying22 Tryz.sizeOf54 hA2.out hpl
        have hry:=HKS.out _ (fAt_mem hpl)
        have hfs:(kept.take (p+1)).filter (fun g=>g.id==x.id)=(kept.take p).filter (fun g=>g.id==x.id)++if (fAt kept p).id==x.id then [fAt kept p] else []:=by
         rw[List.take_add_one,fAt_get hpl,List.filter_append]
         simp[List.filter_cons]
        have hl8:((kept.take p).filter (fun g=>g.id==x.id)).length≤300:=by
         have:=List.length_filter_le (fun g:FV=>g.id==x.id) (kept.take p)
         rw[List.length_take] at this
         omega
        obtain⟨y,hy⟩:∃y,fAt kept p=y:=⟨_,rfl⟩
        rw[hy] at fy hry hfs
        obtain⟨fl,hfl⟩:∃fl,(kept.take p).filter (fun g=>g.id==x.id)=fl:=⟨_,rfl⟩
        rw[hfl] at hown8 hbr8 has8 hfs hl8 HA2
        rw[hfl]
        have hL8:=len_of hbr8
        rw[List.length_append] at hL8
        obtain⟨d0,d1,d2,d3,d4,d5,d6,d7,d8⟩:=fy.up hgr8 hb2
        have hb2x:b2<wr.heap.size:=Nat.lt_of_lt_of_le hb2 hgr8.below.size
        have HFY:=hide fy
        have HRY:=hide hry
        have HFS:=hide hfs
        obtain⟨ln,hln⟩:∃l',lm++fl=l':=⟨_,rfl⟩
        have HLN:=hide hln
        rw[hln] at hown8 hbr8 has8 HA2
        rw[hln]
        have hLL8:L8.length=ln.length:=len_of hbr8
        have HO8:=hide hown8
        have HBR8:=hide hbr8
        have HAS8:=hide has8
        have HG8:=hide hgr8
        have HLT8:Hid (∀g,(Value.slice A8 ln.length cv8).ownBlock=some g→w.heap.size≤g):=hide (fun g h=>Nat.le_trans HW0.out (HO8.out.lt g h).1)
        obtain⟨Wr,hWr⟩:∃W,W=wr:=⟨wr,rfl⟩
        clear hA2 hy hfl hry hfs fy hln hown8 hbr8 has8 hgr8
        by_cases hid:y.id=x.id
        ·have hidb:(y.id==x.id)=true:=by simpa using hid
         have hfs2:=HFS.out
         rw[if_pos hidb] at hfs2
         have HFS2:=hide hfs2
         clear hfs2 hWr
         go_wp2_with fail
         refine wp_region_qas 11 [] [] hm (h:=?_)
         repeat (refine wpSteady_step (fun K hK=>?_);go_simp;refine hK _ ?_;clear hK K)
         refine rq0 fun nq osq=>?_
         try simp only[Act.put,setA]
         try dsimp only
         go_wp2_with (at_builtin;refine AppG3.stop ?_)
         refine AppG3.go ?_
         refine wpList_append_any _ rfl (.tmp 74) (.tmp 79) _ rfl W0.heap.size 54 i0 _ 9 104 Tryz.underlying22 hi hz0 hz1 hz2 rfl (by omega) _ L8.length (L8.flatMap FV.cells) rfl (fown_grew HO8.out gw) _ (some ⟨_,0,none⟩) 1 1 ([y].flatMap FV.cells) rfl (Rd.reads fv_len (by omega) (by rw[←hid];exact Rd.lit1 _ y _ (by first|rfl|simp[hs_dr]))) (fv_one _) (by simp only[maxLen];omega) (by omega) (by have:=HG8.out.below.size;(try simp[hs_dr]);omega) ?_
         intro v' w1 hown1 hg1 hv1
         have HRA2:Hid (RA W0 w1 v' (ln++[y])):=hide (RA.put (fown_grew HO8.out gw) HBR8.out (HAS8.out.grew gw) (HG8.out.trans gw) (AllS.of HRY.out (HG0.out.trans (HG8.out.trans gw)) HLT8.out) rfl hown1 hg1 hv1 rfl)
         clear hown1 hg1 hv1
         go_wp2_with fail
         go_roundw
         case rel=>exact⟨p+1,by omega,by go_num,by rw[HFS2.out,←List.append_assoc,HLN.out];exact HRA2.out.up gw⟩
         case measure=>simp[intOf];omega
        ·have hidb:(y.id==x.id)=false:=by simpa using hid
         have hfs2:=HFS.out
         rw[if_neg (by rw[hidb];simp),List.append_nil] at hfs2
         have HFS2:=hide hfs2
         clear hfs2 hWr
         go_wp2_with fail
         refine wp_region_qas 11 [] [] hm (h:=?_)
         repeat (refine wpSteady_step (fun K hK=>?_);go_simp;refine hK _ ?_;clear hK K)
         refine rq0 fun nq osq=>?_
         try simp only[Act.put,setA]
         try dsimp only
         go_wp2_with fail
         go_roundw
         case rel=>exact⟨p+1,by omega,by go_num,by rw[HFS2.out,HLN.out];exact HA2.out.up gw⟩
         case measure=>simp[intOf];omega
       ·obtain rfl:p=kept.length:=by omega
        clear hra
        go_wp2_with fail
        go_roundw
        case rel=>exact⟨q+1,by omega,by go_num,by
         rw[HSU.out,hrp3.out,←List.append_assoc,HLM.out]
         have h:=HA2.out
         rw[List.take_length] at h
         exact h.up gw⟩
        case measure=>simp[intOf];omega
    ·obtain rfl:q=fs.length:=by omega
     obtain⟨⟨L,hown,hbr,has⟩,hgr⟩:=hra
     obtain⟨Av,cv,rfl,hcv,hrd⟩:=Rd.of_own fv_len hown rfl
     have hll:L.length≤300*301:=by
      rw[len_of hbr]
      exact Nat.le_trans (rapp_len 3 k n kept fs fs.length) (Nat.mul_le_mul (by omega) (by have:=hkl;omega))
     rw[←HAL.out] at hbr
     have HFR:=hide (show FRd wr wr.heap.size Av L from ⟨hrd,fun f hf=>has f hf wr ((Grew.refl wr).grownBy _)⟩)
     obtain⟨u,hu⟩:∃u,FList (rapplyL 3 k n fs)=u:=⟨_,rfl⟩
     have hfu:=(FList_of hbr).trans hu
     have kv:=hide (fun W (hg:Grew wr W)=>v7List_v L Av cv u W (HFR.out.up hg) (by omega) hfu)
     have hrs:=HRS.out
     rw[hu] at hrs
     have HBR:=hide hbr
     have HG:=hide hgr
     clear hbr hgr hown has hcv hrd hu hfu HRS HA HAL
     cases u
     ·obtain rfl:rs=([],3):=by rw[←hrs,if_neg (by simp)]
      clear hrs
      go_wp2_with (go_at_call 45;with_reducible refine crv (kv.out _ gw) fun _ _=>?_;dsimp only)
      go_ret2
      exact⟨none,0,[],rfl,rfl,FRd.nil _ _ _,HG0.out.trans (HG.out.trans gw)⟩
     ·obtain rfl:rs=(rapplyL 3 k n fs,0):=by rw[←hrs,if_pos rfl]
      clear hrs
      go_wp2_with (go_at_call 45;with_reducible refine crv (kv.out _ gw) fun _ _=>?_;dsimp only)
      go_ret2
      exact⟨Av,cv,L,rfl,HBR.out,HFR.out.up gw,HG0.out.trans (HG.out.trans gw)⟩
  ·have h3:(o==3)=false:=by simpa using ho3
   have h3n:(o != 3)=true:=by simpa using ho3
   have hke:rkeptL o k n fs=[]:=if_neg ho3
   have HAL:Hid (rapplyL o k n fs=rappTo o k n [] fs fs.length):=hide (by unfold rapplyL rappTo;rw[hke,List.take_length])
   have HO3:=hide ho3
   go_enter Tryz.func56,Tryz.ntmps56
   clear hke ho3
   go_wp2_with (first|(go_at_call 72;with_reducible refine crv (k1.out _) fun _ _=>?_;dsimp only)|(go_at_call 45;with_reducible refine crv (k2.out _ gw) fun _ _=>?_;dsimp only))
   refine wp_name ?_
   intro W0 hW
   have HG0:Hid (Grew w W0):=hide (by rw[←hW];exact gw)
   have HB0:Hid (RuBox W0 w.heap.size o k n):=hide (by rw[←hW];exact (RuBox.new w o k n).up gw)
   clear hW k1 k2 ht
   have hkl:([]:List FV).length≤fs.length:=by simp
   go_loopw [9,10] (fun v i wr=>∃q:Nat,q≤fs.length∧i=.int .i64 q∧RA W0 wr v (rappTo o k n ([]:List FV) fs q)) (fun _ i _=>fs.length-(intOf i).toNat)
   case atStart=>exact⟨0,by omega,rfl,⟨⟨[],World.ownsRow_nil _ _ _ _,rfl,AllS.nil _ _⟩,gw⟩⟩
   case round =>
    obtain⟨q,hq,rfl,hra⟩:=hrel
    have HA:=hide hra
    by_cases hlt:q<fs.length
    ·obtain⟨Av,cv,rfl⟩:=hra.slice
     obtain⟨⟨L,hown,hbr,has⟩,hgr⟩:=hra
     obtain⟨⟨r0,r1,r2⟩,rl⟩:=HB0.out.up hgr
     obtain⟨b1,off1,hA1,hb1,fx⟩:=rowAt (HR.out.row.up HG0.out) hlt
     have hix1:=idx_run (cap:=c) Tryz.underlying22 Tryz.sizeOf54 hA1.out hlt
     have hsu:=rapp_succ (o:=o) (k:=k) (n:=n) (kept:=([]:List FV)) hlt
     have hrr:=HR.out.each _ (fAt_mem hlt)
     have hdp:=HFD.out _ (fAt_mem hlt)
     have hll:(rappTo o k n ([]:List FV) fs q).length≤300*301:=Nat.le_trans (rapp_len o k n ([]:List FV) fs q) (Nat.mul_le_mul (by omega) (by have:=hkl;omega))
     obtain⟨x,hx⟩:∃x,fAt fs q=x:=⟨_,rfl⟩
     obtain⟨l,hl⟩:∃l,rappTo o k n ([]:List FV) fs q=l:=⟨_,rfl⟩
     rw[hx] at fx hsu hrr hdp
     rw[hl] at hsu HA hll hbr hown has
     rw[hl]
     have hLL:=len_of hbr
     have FX:=hide fx
     obtain⟨c0,c1',c2,c3,c4,c5,c6,c7,c8⟩:=fx.up hgr hb1
     have hb1w:b1<wr.heap.size:=Nat.lt_of_lt_of_le hb1 hgr.below.size
     have HSU:=hide hsu
     have HBR:=hide hbr
     have HAS:=hide has
     have HO:=hide hown
     have HG:=hide hgr
     have hL3:L.length≤300*301:=by omega
     have HLT:Hid (∀g,(Value.slice Av l.length cv).ownBlock=some g→W0.heap.size≤g∧g<wr.heap.size):=hide (fun g h=>HO.out.lt g h)
     have HW0:Hid (w.heap.size≤W0.heap.size):=hide HG0.out.below.size
     have HST:Hid (∀W,Grew wr W→∀g,(Value.slice Av l.length cv).ownBlock=some g→g<W.heap.size∧FSt W g x):=hide (fun W hg g h=>⟨by have:=HLT.out g h;have:=hg.below.size;omega,by
      have hb:=(HG0.out.trans (HG.out.trans hg)).below
      exact FSt.of (B:=w.heap.size) ⟨hrr.area.below hb,hrr.secs.below hb,hrr.la,hrr.ls,hrr.lc⟩ (by have:=HG.out.below.size;have:=hg.below.size;have:=HW0.out;omega) (by have:=HLT.out g h;have:=HW0.out;omega)⟩)
     have kc:=hide (fun W (hg:Grew wr W)=>rchange_v o k n x W (by
      have hb:=(HG0.out.trans (HG.out.trans hg)).below
      exact⟨(hrr.area.below hb).mono hb.size,(hrr.secs.below hb).mono hb.size,hrr.la,hrr.ls,hrr.lc⟩) HO1.out hdp)
     have HDP:=hide hdp
     obtain⟨t,ht⟩:∃t,chg o k n x=t:=⟨_,rfl⟩
     rw[ht] at kc
     have HT:=hide ht
     have hKS:Hid (∀W',Grew W0 W'→(W'.cell? ⟨w.heap.size,0,none⟩=some (.int .i64 o)∧W'.cell? ⟨w.heap.size,1,none⟩=some (.int .i64 k)∧W'.cell? ⟨w.heap.size,2,none⟩=some (.int .i64 n)∧W'.cell? ⟨b1,off1+q*9,none⟩=some (.int .i64 x.id)∧W'.cell? ⟨b1,off1+q*9+1,none⟩=some (.int .i64 x.kind)∧W'.cell? ⟨b1,off1+q*9+2,none⟩=some (.int .i64 x.x)∧W'.cell? ⟨b1,off1+q*9+3,none⟩=some (.int .i64 x.y)∧W'.cell? ⟨b1,off1+q*9+4,none⟩=some (.int .i64 x.rad)∧W'.cell? ⟨b1,off1+q*9+5,none⟩=some (.slice x.aA x.area.length x.ac)∧W'.cell? ⟨b1,off1+q*9+6,none⟩=some (.int .i64 x.dep)∧W'.cell? ⟨b1,off1+q*9+7,none⟩=some (.int .i64 x.sym)∧W'.cell? ⟨b1,off1+q*9+8,none⟩=some (.slice x.sA x.secs.length x.sc))):=hide (fun W' g=>by
      obtain⟨⟨r0,r1,r2⟩,_⟩:=HB0.out.up g
      obtain⟨d0,d1,d2,d3,d4,d5,d6,d7,d8⟩:=FX.out.up g hb1
      exact⟨r0,r1,r2,d0,d1,d2,d3,d4,d5,d6,d7,d8⟩)
     clear hA1 hx hl hsu hrr hbr hown hgr hdp ht has fx
     go_wp2_with fail
     refine wp_region_qas 13 [] [] hm (h:=?_)
     repeat (refine wpSteady_step (fun K hK=>?_);go_simp;refine hK _ ?_;clear hK K)
     refine rq0 fun nq osq=>?_
     try simp only[Act.put,setA]
     try dsimp only
     go_wp2_with fail
     refine wp_region_held_drew (S:=(fun W'=>W'.cell? ⟨w.heap.size,0,none⟩=some (.int .i64 o)∧W'.cell? ⟨w.heap.size,1,none⟩=some (.int .i64 k)∧W'.cell? ⟨w.heap.size,2,none⟩=some (.int .i64 n)∧W'.cell? ⟨b1,off1+q*9,none⟩=some (.int .i64 x.id)∧W'.cell? ⟨b1,off1+q*9+1,none⟩=some (.int .i64 x.kind)∧W'.cell? ⟨b1,off1+q*9+2,none⟩=some (.int .i64 x.x)∧W'.cell? ⟨b1,off1+q*9+3,none⟩=some (.int .i64 x.y)∧W'.cell? ⟨b1,off1+q*9+4,none⟩=some (.int .i64 x.rad)∧W'.cell? ⟨b1,off1+q*9+5,none⟩=some (.slice x.aA x.area.length x.ac)∧W'.cell? ⟨b1,off1+q*9+6,none⟩=some (.int .i64 x.dep)∧W'.cell? ⟨b1,off1+q*9+7,none⟩=some (.int .i64 x.sym)∧W'.cell? ⟨b1,off1+q*9+8,none⟩=some (.slice x.sA x.secs.length x.sc))) hm ?_ (fun hHeld=>?_)
     ·(first|exact hKS.out _ (HRA.out.g)|exact hKS.out _ (HG.out.trans gw))
     refine tk 0 ?_
     refine tk 1 ?_
     refine tk 2 ?_
     refine tk 3 ?_
     try simp only[Act.put,setA,getA]
     refine tk 4 ?_
     try simp only[Act.put,setA,getA]
     refine tk 5 ?_
     try simp only[Act.put,setA,getA]
     refine wpAnyH_ready (rs:=[6]) (by kernel_rfl) (by simp) ?_
     refine AllReadyH.cons (o:=_) rfl (fun K hK=>?_) AllReadyH.nil
     go_simp
     first|((go_at_call 74);(refine (kc.out _ gw).mono ?_);rintro e Wn ⟨f',rfl,hfb,hfr,hgn,hfs⟩;have HFB:=hide hfb;have HAC:=hide (AllS.chg hfs hfr (HST.out _ gw));have HGN:=hide (Grew.trans (a:=wr) gw hgn);clear hfb hfr hgn hfs;dsimp only)|(with_reducible show K _ _)|((refine step_append_any _ rfl (.tmp 48) (.tmp 55) _ rfl W0.heap.size 54 i0 _ 9 104 Tryz.underlying22 hi hz0 hz1 hz2 rfl (by omega) _ L.length (L.flatMap FV.cells) rfl (fown_grew HO.out gw) _ (some ⟨_,0,none⟩) 1 1 ([f'].flatMap FV.cells) rfl ((Rd.lit1 _ f' _ (by simp[hs_dr])).reads fv_len (by omega)) (fv_one _) (by simp only[maxLen];omega) (by omega) (by have:=HG.out.below.size;have:=HGN.out.below.size;simp[hs_dr];omega) ?_);(intro v' w1 hown1 hg1 hv1);have HRA:Hid (RA W0 w1 v' (l++[t])):=hide (RA.put (fown_grew HO.out gw) HBR.out (HAS.out.grew gw) (HG.out.trans gw) (HAC.out.grew gw) HFB.out hown1 hg1 hv1 rfl);clear hown1 hg1 hv1)
     refine hK.out _ _ ?_ (fun hHeld=>?_)
     ·(first|exact hKS.out _ (HRA.out.g)|exact hKS.out _ (HG.out.trans gw))
     clear hK K
     try simp only[Act.put,setA,getA]
     refine wpAnyH_ready (rs:=[7]) (by kernel_rfl) (by simp) ?_
     refine AllReadyH.cons (o:=_) rfl (fun K hK=>?_) AllReadyH.nil
     go_simp
     first|((go_at_call 74);(refine (kc.out _ gw).mono ?_);rintro e Wn ⟨f',rfl,hfb,hfr,hgn,hfs⟩;have HFB:=hide hfb;have HAC:=hide (AllS.chg hfs hfr (HST.out _ gw));have HGN:=hide (Grew.trans (a:=wr) gw hgn);clear hfb hfr hgn hfs;dsimp only)|(with_reducible show K _ _)|((refine step_append_any _ rfl (.tmp 48) (.tmp 55) _ rfl W0.heap.size 54 i0 _ 9 104 Tryz.underlying22 hi hz0 hz1 hz2 rfl (by omega) _ L.length (L.flatMap FV.cells) rfl (fown_grew HO.out gw) _ (some ⟨_,0,none⟩) 1 1 ([f'].flatMap FV.cells) rfl ((Rd.lit1 _ f' _ (by simp[hs_dr])).reads fv_len (by omega)) (fv_one _) (by simp only[maxLen];omega) (by omega) (by have:=HG.out.below.size;have:=HGN.out.below.size;simp[hs_dr];omega) ?_);(intro v' w1 hown1 hg1 hv1);have HRA:Hid (RA W0 w1 v' (l++[t])):=hide (RA.put (fown_grew HO.out gw) HBR.out (HAS.out.grew gw) (HG.out.trans gw) (HAC.out.grew gw) HFB.out hown1 hg1 hv1 rfl);clear hown1 hg1 hv1)
     refine hK.out _ _ ?_ (fun hHeld=>?_)
     ·(first|exact hKS.out _ (HRA.out.g)|exact hKS.out _ (HG.out.trans gw))
     clear hK K
     try simp only[Act.put,setA,getA]
     refine wpAnyH_ready (rs:=[8]) (by kernel_rfl) (by simp) ?_
     refine AllReadyH.cons (o:=_) rfl (fun K hK=>?_) AllReadyH.nil
     first|((go_at_call 74);(refine (kc.out _ gw).mono ?_);rintro e Wn ⟨f',rfl,hfb,hfr,hgn,hfs⟩;have HFB:=hide hfb;have HAC:=hide (AllS.chg hfs hfr (HST.out _ gw));have HGN:=hide (Grew.trans (a:=wr) gw hgn);clear hfb hfr hgn hfs;dsimp only)|(with_reducible show K _ _)|((refine step_append_any _ rfl (.tmp 48) (.tmp 55) _ rfl W0.heap.size 54 i0 _ 9 104 Tryz.underlying22 hi hz0 hz1 hz2 rfl (by omega) _ L.length (L.flatMap FV.cells) rfl (fown_grew HO.out gw) _ (some ⟨_,0,none⟩) 1 1 ([f'].flatMap FV.cells) rfl ((Rd.lit1 _ f' _ (by simp[hs_dr])).reads fv_len (by omega)) (fv_one _) (by simp only[maxLen];omega) (by omega) (by have:=HG.out.below.size;have:=HGN.out.below.size;simp[hs_dr];omega) ?_);(intro v' w1 hown1 hg1 hv1);have HRA:Hid (RA W0 w1 v' (l++[t])):=hide (RA.put (fown_grew HO.out gw) HBR.out (HAS.out.grew gw) (HG.out.trans gw) (HAC.out.grew gw) HFB.out hown1 hg1 hv1 rfl);clear hown1 hg1 hv1)
     refine hK.out _ _ ?_ (fun hHeld=>?_)
     ·(first|exact hKS.out _ (HRA.out.g)|exact hKS.out _ (HG.out.trans gw))
     clear hK K
     try simp only[Act.put,setA,getA]
     refine tk 9 ?_
     try simp only[Act.put,setA,getA]
     refine wpAnyH_done (by kernel_rfl) ?_ _
     clear hHeld
     go_wp2_with fail
     clear kc
     go_loopw [9,11] (fun v p wr=>p=.int .i64 0∧RA W0 wr v (l++[t])) (fun _ _ _=>0)
     case atStart=>exact⟨rfl,HRA.out.up gw⟩
     case round =>
      obtain⟨rfl,hra⟩:=hrel
      have HA2:=hide hra
      clear hra
      go_wp2_with fail
      go_roundw
      case rel=>exact⟨q+1,by omega,by go_num,by
       rw[HSU.out,show rpart o k n [] x=[t] from by
        unfold rpart
        rw[if_pos (Or.inl HO3.out),HT.out]
        rfl]
       exact HA2.out.up gw⟩
      case measure=>simp[intOf];omega
    ·obtain rfl:q=fs.length:=by omega
     obtain⟨⟨L,hown,hbr,has⟩,hgr⟩:=hra
     obtain⟨Av,cv,rfl,hcv,hrd⟩:=Rd.of_own fv_len hown rfl
     have hll:L.length≤300*301:=by
      rw[len_of hbr]
      exact Nat.le_trans (rapp_len o k n ([]:List FV) fs fs.length) (Nat.mul_le_mul (by omega) (by have:=hkl;omega))
     rw[←HAL.out] at hbr
     have HFR:=hide (show FRd wr wr.heap.size Av L from ⟨hrd,fun f hf=>has f hf wr ((Grew.refl wr).grownBy _)⟩)
     obtain⟨u,hu⟩:∃u,FList (rapplyL o k n fs)=u:=⟨_,rfl⟩
     have hfu:=(FList_of hbr).trans hu
     have kv:=hide (fun W (hg:Grew wr W)=>v7List_v L Av cv u W (HFR.out.up hg) (by omega) hfu)
     have hrs:=HRS.out
     rw[hu] at hrs
     have HBR:=hide hbr
     have HG:=hide hgr
     clear hbr hgr hown has hcv hrd hu hfu HRS HA HAL
     cases u
     ·obtain rfl:rs=([],3):=by rw[←hrs,if_neg (by simp)]
      clear hrs
      go_wp2_with (go_at_call 45;with_reducible refine crv (kv.out _ gw) fun _ _=>?_;dsimp only)
      go_ret2
      exact⟨none,0,[],rfl,rfl,FRd.nil _ _ _,HG0.out.trans (HG.out.trans gw)⟩
     ·obtain rfl:rs=(rapplyL o k n fs,0):=by rw[←hrs,if_pos rfl]
      clear hrs
      go_wp2_with (go_at_call 45;with_reducible refine crv (kv.out _ gw) fun _ _=>?_;dsimp only)
      go_ret2
      exact⟨Av,cv,L,rfl,HBR.out,HFR.out.up gw,HG0.out.trans (HG.out.trans gw)⟩
 ·have hb:(u1&&u2)=false:=by
   cases u1<;>cases u2<;>simp at hbad ⊢
  rw[hb,if_neg (by simp)]
  have hcs:u1=false∨(u1=true∧u2=false):=by cases u1<;>cases u2<;>simp at hb ⊢
  clear hr hu1 hu2 hb hbad
  rcases hcs with rfl|⟨rfl,rfl⟩
  all_goals
   go_enter Tryz.func56,Tryz.ntmps56
   go_wp2_with (first|(go_at_call 72;with_reducible refine crv (k1.out _) fun _ _=>?_;dsimp only)|(go_at_call 45;with_reducible refine crv (k2.out _ gw) fun _ _=>?_;dsimp only))
   go_ret2
   exact⟨none,0,[],rfl,rfl,FRd.nil _ _ _,gw⟩
end Go.Proofs.YtblgdlnmabkpoaaGreat

/- The reference's Apply and package rule's hand back the same: in plain words. -/
namespace Go.Proofs.YtblgdlnmabkpoaaGreat
open Go.RowKit Go.Sort
attribute [local go_sem] Steady steadyUpon
attribute [local go_sem ↓] hs_dr lt_add_r lt_add_r2 lt_add_r3 lt_add_r4 lt_add_r5 lt_add_r6
attribute [local go_sem] cell?_gd frozen?_gd setCell_gd size_grow tape_grow cell?_grow' frozen?_grow' setCell_grow' grow_grow grow_dr grow_drew dr_dr dr_drew drew_dr dr_alloc dr_setCell dr_cell dr_frozen dr_tape dr_drawn
theorem get_fA {l:List FV}{m:Nat}(h:m<l.length):l[m]=fAt l m:=by
 have a:=fAt_get h
 rw[List.getElem?_eq_getElem h] at a
 injection a
theorem fA_left {a b:List FV}{i:Nat}(h:i<a.length):fAt (a++b) i=fAt a i:=by
 unfold fAt
 rw[List.getD_eq_getElem?_getD,List.getD_eq_getElem?_getD,List.getElem?_append_left h]
theorem fA_last (a:List FV)(x:FV):fAt (a++[x]) a.length=x:=by
 unfold fAt
 rw[List.getD_eq_getElem?_getD,List.getElem?_append_right (Nat.le_refl _)]
 simp
theorem fA_set {a:List FV}{k:Nat}(x:FV)(h:k<a.length)(i:Nat):fAt (a.set k x) i=if i=k then x else fAt a i:=by
 unfold fAt
 rw[List.getD_eq_getElem?_getD,List.getD_eq_getElem?_getD,List.getElem?_set]
 by_cases e:k=i
 ·subst e
  simp[h]
 ·rw[if_neg e,if_neg (fun h=>e h.symm)]
/-! The order by depth. -/
theorem sh_le {f g:FV}(h:shB f g=true):leD f g=true:=by
 unfold shB at h
 rw[decide_eq_true_eq] at h
 rw[leD_iff]
 omega
theorem sh_not {f g:FV}(h:shB f g=false):leD g f=true:=by
 unfold shB at h
 rw[decide_eq_false_iff_not] at h
 rw[leD_iff]
 omega
theorem dw_le {x:FV}:∀ {l:List FV},(l.Pairwise fun a b=>leD a b=true)→∀b,b∈l.dropWhile (fun y=>shB y x)→leD x b=true
 | [],_,b,hb=>by simp at hb
 | a::l,hs,b,hb=>by
  rw[List.pairwise_cons] at hs
  by_cases h:shB a x=true
  ·rw[List.dropWhile_cons_of_pos (p:=fun y=>shB y x) h] at hb
   exact dw_le hs.2 b hb
  ·have h':shB a x=false:=by simpa using h
   rw[List.dropWhile_cons_of_neg (p:=fun y=>shB y x) h] at hb
   rcases List.mem_cons.1 hb with rfl|hb
   ·exact sh_not h'
   ·exact sortD_trans _ _ _ (sh_not h') (hs.1 b hb)
theorem tw_sh {x:FV}:∀ {l:List FV},∀b,b∈l.takeWhile (fun y=>shB y x)→shB b x=true
 | [],b,hb=>by simp at hb
 | a::l,b,hb=>by
  by_cases h:shB a x=true
  ·rw[List.takeWhile_cons_of_pos (p:=fun y=>shB y x) h] at hb
   rcases List.mem_cons.1 hb with rfl|hb
   ·exact h
   ·exact tw_sh b hb
  ·rw[List.takeWhile_cons_of_neg (p:=fun y=>shB y x) h] at hb
   cases hb
theorem insD_perm (x:FV)(l:List FV):(insD x l).Perm (x::l):=by
 unfold insD
 have e:=List.takeWhile_append_dropWhile (p:=fun y=>shB y x) (l:=l)
 refine List.perm_middle.trans ?_
 rw[e]
theorem insD_sorted {x:FV}{l:List FV}(h:l.Pairwise fun a b=>leD a b=true):(insD x l).Pairwise fun a b=>leD a b=true:=by
 unfold insD
 rw[List.pairwise_append,List.pairwise_cons]
 refine⟨h.sublist (List.takeWhile_sublist _),⟨dw_le h,h.sublist (List.dropWhile_sublist _)⟩,fun a ha b hb=>?_⟩
 have hax:=sh_le (tw_sh a ha)
 rcases List.mem_cons.1 hb with rfl|hb
 ·exact hax
 ·exact sortD_trans _ _ _ hax (dw_le h b hb)
theorem foldD_facts:∀ (fs l:List FV),(l.Pairwise fun a b=>leD a b=true)→((fs.foldl (fun l x=>insD x l) l).Perm (fs++l)∧(fs.foldl (fun l x=>insD x l) l).Pairwise fun a b=>leD a b=true)
 | [],l,h=>⟨List.Perm.refl _,h⟩
 | a::fs,l,h=>by
  obtain⟨h1,h2⟩:=foldD_facts fs (insD a l) (insD_sorted h)
  refine⟨h1.trans ?_,h2⟩
  exact ((insD_perm a l).append_left fs).trans List.perm_middle
theorem byD_discs {k:Int}{fs:List FV}(h:(fs.map FV.id).Nodup):byD (fs.filter (isKind k))=discsOf k fs:=by
 obtain⟨h1,h2⟩:=foldD_facts (fs.filter (isKind k)) [] List.Pairwise.nil
 rw[List.append_nil] at h1
 exact sort_uniq sortD_id sortD_trans sortD_total (h.sublist ((List.filter_sublist).map FV.id)) h1 h2
/-! What is kept: the same, or too wide on both sides. -/
def Sim (a b:FV):Prop:=a=b∨(100000<a.rad∧100000<b.rad∧b={ a with rad:=b.rad })
def SimL (a b:List FV):Prop:=a.length=b.length∧∀i,i<a.length→Sim (fAt a i) (fAt b i)
theorem near_eq {n:Int}{f g:FV}(hn:0≤n∧n≤100000)(hf:plOk f.x f.y=true)(hg:plOk g.x g.y=true):nearF n f g=rnearF n f g:=by
 unfold nearF rnearF nearOf
 rw[if_pos (by rw[show Pt.ok (f.x,f.y)=true from hf,show Pt.ok (g.x,g.y)=true from hg,show distB n=true by unfold distB;rw[decide_eq_true_eq];omega];rfl)]
 unfold nearB sqr
 have e:dt (g.x,g.y) (g.x,g.y) (f.x,f.y)=0:=by unfold dt;simp
 rw[e,if_pos (Int.le_refl 0)]
 dsimp only
 rw[Int.mul_one,Int.mul_one]
theorem lies_eq {f g:FV}(hf:plOk f.x f.y=true)(hg:plOk g.x g.y=true)(rf:0≤f.rad∧f.rad≤3000000)(rg:0≤g.rad∧g.rad≤3000000):liesF f g=rliesF f g:=by
 unfold liesF rliesF liesOf
 rw[if_pos (by rw[show Pt.ok (f.x,f.y)=true from hf,show Pt.ok (g.x,g.y)=true from hg,show distB f.rad=true by unfold distB;rw[decide_eq_true_eq];omega,show distB g.rad=true by unfold distB;rw[decide_eq_true_eq];omega];rfl)]
theorem rhi_sq {f g:FV}(hf:plOk f.x f.y=true)(hg:plOk g.x g.y=true):dt (f.x,f.y) (g.x,g.y) (g.x,g.y)≤rhiF f g*rhiF f g:=by
 have hd:=dt_bd (a:=(f.x,f.y)) (b:=(g.x,g.y)) (c:=(g.x,g.y)) hf hg hg
 have h0:=dt_nn (f.x,f.y) (g.x,g.y)
 unfold rhiF
 rw[dist_ok (p:=(f.x,f.y)) (q:=(g.x,g.y)) hf hg]
 obtain⟨h1,_,h3,h4⟩:=root_spec _ h0 (by omega)
 dsimp only
 split<;>omega
theorem wide_on {f g:FV}(hf:plOk f.x f.y=true∧0≤f.rad∧f.rad≤100000)(hg:RKept g)(hw:100000<g.rad):100000<(rjoinF f g).rad∧rjoinF f g={ g with rad:=(rjoinF f g).rad }:=by
 unfold rjoinF
 by_cases h:rliesF f g=true
 ·rw[if_pos h]
  exact⟨hw,rfl⟩
 ·rw[if_neg h]
  refine⟨?_,rfl⟩
  show 100000<rhiF f g+f.rad
  refine Int.lt_of_not_ge fun hle=>h ?_
  have h0:=(rhi_bd hf.1 hg.1).1
  have hs:=rhi_sq hf.1 hg.1
  have hm:=Int.mul_le_mul (show rhiF f g≤g.rad-f.rad by omega) (show rhiF f g≤g.rad-f.rad by omega) h0 (by omega)
  unfold rliesF liesB
  rw[Bool.and_eq_true,decide_eq_true_eq,decide_eq_true_eq]
  exact⟨by omega,by omega⟩
theorem sim_join {f a b:FV}(hf:plOk f.x f.y=true∧0≤f.rad∧f.rad≤100000)(hb:RKept b)(h:Sim a b):Sim (joinF f a) (rjoinF f b):=by
 rcases h with rfl|⟨h1,h2,h3⟩
 ·by_cases hw:100000<a.rad
  ·obtain⟨w1,w2⟩:=wide_on hf hb hw
   refine .inr ?_
   unfold joinF
   rw[if_pos hw]
   exact⟨hw,w1,w2⟩
  ·refine .inl ?_
   unfold joinF rjoinF growF
   rw[if_neg hw,lies_eq hf.1 hb.1 (by omega) hb.2]
   rfl
 ·obtain⟨w1,w2⟩:=wide_on hf hb h2
  refine .inr ?_
  unfold joinF
  rw[if_pos h1]
  refine⟨h1,w1,?_⟩
  rw[w2,h3]
theorem sim_pl {a b:FV}(h:Sim a b):a.x=b.x∧a.y=b.y:=by
 rcases h with rfl|⟨_,_,h⟩
 ·exact⟨rfl,rfl⟩
 ·rw[h]
  exact⟨rfl,rfl⟩
theorem sim_step {n:Int}{K R:List FV}{f:FV}(hn:0≤n∧n≤100000)(hf:plOk f.x f.y=true∧0≤f.rad∧f.rad≤100000)(hR:∀g∈R,RKept g)(h:SimL K R):SimL (thinStep n K f) (rkStep n R f):=by
 obtain⟨hl,hs⟩:=h
 have hnr:∀m,m<R.length→nearF n f (fAt K m)=rnearF n f (fAt R m):=fun m hm=>by
  have hk:=hR _ (fAt_mem hm)
  obtain⟨ex,ey⟩:=sim_pl (hs m (by omega))
  rw[←near_eq hn hf.1 hk.1]
  unfold nearF
  rw[ex,ey]
 cases hi:R.findIdx? (rnearF n f) with
 | none =>
  have hno:∀m,m<R.length→rnearF n f (fAt R m)=false:=fun m hm=>List.findIdx?_eq_none_iff.1 hi _ (fAt_mem hm)
  rw[rstep_none hno,step_none (fun m hm=>by rw[hnr m (by omega)];exact hno m (by omega))]
  refine⟨by rw[List.length_append,List.length_append,hl],fun i hi=>?_⟩
  rw[List.length_append,List.length_singleton] at hi
  by_cases e:i<K.length
  ·rw[fA_left e,fA_left (by omega)]
   exact hs i e
  ·obtain rfl:i=K.length:=by omega
   rw[fA_last,hl,fA_last]
   exact .inl rfl
 | some k =>
  obtain⟨hk,h1,h2⟩:=List.findIdx?_eq_some_iff_getElem.1 hi
  rw[get_fA] at h1
  have h2':∀j,j<k→rnearF n f (fAt R j)=false:=fun j hj=>by
   have:=h2 j hj
   rw[get_fA] at this
   simpa using this
  rw[rstep_some hk h1 h2',step_some (show k<K.length by omega) (by rw[hnr k hk];exact h1) (fun m hm=>by rw[hnr m (by omega)];exact h2' m hm)]
  refine⟨by rw[List.length_set,List.length_set,hl],fun i hi=>?_⟩
  rw[List.length_set] at hi
  rw[fA_set _ (by omega),fA_set _ hk]
  by_cases e:i=k
  ·rw[if_pos e,if_pos e]
   exact sim_join hf (hR _ (fAt_mem hk)) (hs k (by omega))
  ·rw[if_neg e,if_neg e]
   exact hs i hi
theorem sim_all {n:Int}{ds:List FV}(hn:0≤n∧n≤100000)(hd:∀f,f∈ds→plOk f.x f.y=true∧0≤f.rad∧f.rad≤100000):∀m,m≤ds.length→SimL (keptTo n ds m) (rkTo n ds m)
 | 0,_=>by
  refine⟨rfl,fun i hi=>?_⟩
  simp[keptTo] at hi
 | m+1,h=>by
  rw[keptTo_succ (by omega),rkTo_succ (by omega)]
  exact sim_step hn (hd _ (fAt_mem (by omega))) (rk_all hd m (by omega)) (sim_all hn hd m (by omega))
/-! The lists. -/
theorem strict_uniq:∀ {a b:List FV},(a.Pairwise fun x y=>x.id<y.id)→(b.Pairwise fun x y=>x.id<y.id)→(∀x,x∈a↔x∈b)→a=b
 | [],[],_,_,_=>rfl
 | [],y::b,_,_,h=>by
  have:=(h y).2 (by simp)
  cases this
 | x::a,[],_,_,h=>by
  have:=(h x).1 (by simp)
  cases this
 | x::a,y::b,h1,h2,h=>by
  rw[List.pairwise_cons] at h1 h2
  have e:x=y:=by
   rcases List.mem_cons.1 ((h x).1 (by simp)) with e|e
   ·exact e
   ·have l1:=h2.1 x e
    rcases List.mem_cons.1 ((h y).2 (by simp)) with e2|e2
    ·exact e2.symm
    ·have:=h1.1 y e2
     omega
  subst e
  rw[strict_uniq h1.2 h2.2 fun z=>?_]
  constructor
  ·intro hz
   rcases List.mem_cons.1 ((h z).1 (List.mem_cons_of_mem _ hz)) with e|e
   ·subst e
    have:=h1.1 z hz
    omega
   ·exact e
  ·intro hz
   rcases List.mem_cons.1 ((h z).2 (List.mem_cons_of_mem _ hz)) with e|e
   ·subst e
    have:=h2.1 z hz
    omega
   ·exact e
theorem chg3 (k n:Int)(f:FV):chg 3 k n f=f:=by
 unfold chg
 split
 ·unfold changeF
  rw[if_neg (by decide),if_neg (by decide),if_neg (by decide)]
 ·rfl
theorem rk_from {k n:Int}{fs:List FV}{g:FV}(hg:g∈rkOf k n fs):∃f∈fs,f.kind=k∧g={ f with rad:=g.rad }:=by
 obtain⟨f,hf,e⟩:=rk_src _ (Nat.le_refl _) g hg
 obtain⟨h1,h2⟩:=List.mem_filter.1 (byD_mem f hf)
 exact⟨f,h1,by simpa[isKind] using h2,e⟩
theorem rap_mem {k n:Int}{fs:List FV}{x:FV}:x∈rapplyL 3 k n fs↔x∈othersOf k fs∨x∈rkOf k n fs:=by
 unfold rapplyL rkeptL othersOf
 rw[if_pos rfl,List.mem_flatMap,List.mem_filter]
 unfold rpart
 constructor
 ·rintro⟨f,hf,hx⟩
  rcases List.mem_append.1 hx with hx|hx
  ·by_cases hk:f.kind=k
   ·rw[if_neg (by simp[hk])] at hx
    cases hx
   ·rw[if_pos (Or.inr hk),List.mem_singleton,chg3] at hx
    subst hx
    exact .inl ⟨hf,by simp[isKind,hk]⟩
  ·exact .inr (List.mem_filter.1 hx).1
 ·rintro (⟨hf,hk⟩|hx)
  ·have hk':¬ x.kind=k:=by simpa[isKind] using hk
   exact⟨x,hf,List.mem_append.2 (.inl (by rw[if_pos (Or.inr hk'),chg3];simp))⟩
  ·obtain⟨f,hf,_,e⟩:=rk_from hx
   exact⟨f,hf,List.mem_append.2 (.inr (List.mem_filter.2 ⟨hx,by rw[e];simp⟩))⟩
theorem rpart_id {k n:Int}{fs:List FV}{f x:FV}(hx:x∈rpart 3 k n (rkOf k n fs) f):x.id=f.id:=by
 unfold rpart at hx
 rcases List.mem_append.1 hx with hx|hx
 ·by_cases hk:f.kind=k
  ·rw[if_neg (by simp[hk])] at hx
   cases hx
  ·rw[if_pos (Or.inr hk),List.mem_singleton,chg3] at hx
   rw[hx]
 ·simpa using (List.mem_filter.1 hx).2
theorem rap_strict {k n:Int}{fs:List FV}(hv:FList fs=true)(hR:((rkOf k n fs).map FV.id).Nodup):(rapplyL 3 k n fs).Pairwise fun x y=>x.id<y.id:=by
 have hs:fs.Pairwise fun x y=>x.id<y.id:=by
  rw[List.pairwise_iff_getElem]
  intro i j hi hj hij
  rw[get_fA,get_fA]
  exact list_asc hv i j hij hj
 unfold rapplyL rkeptL
 rw[if_pos rfl,List.pairwise_flatMap]
 refine⟨fun f hf=>?_,hs.imp fun {a b} hab x hx y hy=>by rw[rpart_id hx,rpart_id hy];exact hab⟩
 unfold rpart
 by_cases hk:f.kind=k
 ·rw[if_neg (by simp[hk]),List.nil_append]
  have h1:(rkOf k n fs).Pairwise fun x y=>x.id≠y.id:=by
   rw[List.Nodup,List.pairwise_map] at hR
   exact hR
  refine (h1.sublist List.filter_sublist).imp_of_mem fun {a b} ha hb hne=>?_
  have e1:a.id=f.id:=by simpa using (List.mem_filter.1 ha).2
  have e2:b.id=f.id:=by simpa using (List.mem_filter.1 hb).2
  exact absurd (e1.trans e2.symm) hne
 ·have e:(rkOf k n fs).filter (fun g=>g.id==f.id)=[]:=List.filter_eq_nil_iff.2 fun g hg he=>by
   obtain⟨f2,hf2,hk2,e⟩:=rk_from hg
   have e1:g.id=f.id:=by simpa using he
   have e2:g.id=f2.id:=by rw[e]
   have:=id_inj (list_nodup hv) f2 hf2 f hf (e2.symm.trans e1)
   rw[this] at hk2
   exact hk hk2
  rw[if_pos (Or.inr hk),e]
  simp
theorem thin_strict {k n:Int}{fs:List FV}(hn:(fs.map FV.id).Nodup):(thinOf k n fs).Pairwise fun x y=>x.id<y.id:=by
 have h1:(thinOf k n fs).Pairwise fun a b=>leI a b=true:=by
  unfold thinOf
  refine List.pairwise_mergeSort (fun a b c=>sortI_trans a b c) (fun a b=>?_) _
  rcases sortI_total a b with h|h<;>simp[h]
 have hp:(thinOf k n fs).Perm (othersOf k fs++keptTo n (discsOf k fs) (discsOf k fs).length):=List.mergeSort_perm _ _
 have h2:(thinOf k n fs).Pairwise fun x y=>x.id≠y.id:=by
  have:=(hp.map FV.id).nodup_iff.2 (thin_ids hn)
  rw[List.Nodup,List.pairwise_map] at this
  exact this
 refine (h1.and h2).imp fun {a b} h=>?_
 have:=(leI_iff a b).1 h.1
 have:=h.2
 omega
theorem thin_same {k n:Int}{fs:List FV}(hu:ruleOk 3 k n=true)(hv:FList fs=true):rapplyL 3 k n fs=applyL 3 k n fs∨(FList (rapplyL 3 k n fs)=false∧FList (applyL 3 k n fs)=false):=by
 have hn:=list_nodup hv
 have hap:applyL 3 k n fs=thinOf k n fs:=by
  unfold applyL
  rw[if_pos rfl,chg_none (.inr rfl)]
 have hbd:=byD_discs (k:=k) hn
 have hnn:=(rok_partsG hu).2.1
 have hd:∀f,f∈discsOf k fs→plOk f.x f.y=true∧0≤f.rad∧f.rad≤100000:=fun f hf=>by
  have hf2:=(List.mem_filter.1 ((discs_perm k fs).mem_iff.1 hf)).1
  have hv2:=list_valid hv f hf2
  exact⟨valid_pl hv2,valid_rad hv2⟩
 have hsim:=sim_all hnn hd _ (Nat.le_refl _)
 have hrk:rkOf k n fs=rkTo n (discsOf k fs) (discsOf k fs).length:=by
  unfold rkOf
  rw[hbd]
 have hp:(thinOf k n fs).Perm (othersOf k fs++keptTo n (discsOf k fs) (discsOf k fs).length):=List.mergeSort_perm _ _
 have hki:=kept_ids (n:=n) (ds:=discsOf k fs) _ (Nat.le_refl _)
 rw[List.take_length] at hki
 have hdn:((discsOf k fs).map FV.id).Nodup:=((discs_perm k fs).map FV.id).nodup_iff.2 (hn.sublist ((List.filter_sublist).map FV.id))
 have hkn:=hdn.sublist hki
 rw[hap]
 by_cases hall:∀i,i<(keptTo n (discsOf k fs) (discsOf k fs).length).length→fAt (keptTo n (discsOf k fs) (discsOf k fs).length) i=fAt (rkTo n (discsOf k fs) (discsOf k fs).length) i
 ·have e:keptTo n (discsOf k fs) (discsOf k fs).length=rkOf k n fs:=by
   rw[hrk]
   refine List.ext_getElem hsim.1 fun i h1 h2=>?_
   rw[get_fA,get_fA]
   exact hall i h1
  refine .inl (strict_uniq (rap_strict hv (by rw[←e];exact hkn)) (thin_strict hn) fun x=>?_)
  rw[rap_mem,hp.mem_iff,List.mem_append,e]
 ·obtain⟨i,hi⟩:=Classical.not_forall.1 hall
  obtain⟨hil,hne⟩:=Classical.not_imp.1 hi
  rcases hsim.2 i hil with e|⟨w1,w2,_⟩
  ·exact absurd e hne
  ·refine .inr ⟨?_,?_⟩
   ·refine Bool.eq_false_iff.2 fun ht=>?_
    have hm:fAt (rkTo n (discsOf k fs) (discsOf k fs).length) i∈rapplyL 3 k n fs:=rap_mem.2 (.inr (by rw[hrk];exact fAt_mem (by rw[←hsim.1];exact hil)))
    have:=(valid_rad (list_valid ht _ hm)).2
    omega
   ·refine Bool.eq_false_iff.2 fun ht=>?_
    have hm:fAt (keptTo n (discsOf k fs) (discsOf k fs).length) i∈thinOf k n fs:=hp.mem_iff.2 (List.mem_append.2 (.inr (fAt_mem hil)))
    have:=(valid_rad (list_valid ht _ hm)).2
    omega
/-- Both hand back the same. -/
theorem rapp_eq (o k n:Int)(fs:List FV):rapplyOf o k n fs=applyOf o k n fs:=by
 unfold rapplyOf applyOf
 by_cases h:(ruleOk o k n&&FList fs)=true
 ·rw[if_pos h,if_pos h]
  obtain⟨hu,hv⟩:ruleOk o k n=true∧FList fs=true:=by simpa using h
  by_cases h3:o=3
  ·subst h3
   rcases thin_same hu hv with e|⟨e1,e2⟩
   ·rw[e]
   ·rw[e1,e2]
    rfl
  ·have e:rapplyL o k n fs=applyL o k n fs:=by
    unfold rapplyL rkeptL applyL
    rw[if_neg h3,if_neg h3,show rpart o k n []=fun f=>[chg o k n f] by funext f;unfold rpart;rw[if_pos (Or.inl h3)];rfl]
    have all:∀l:List FV,l.flatMap (fun f=>[chg o k n f])=l.map (chg o k n):=fun l=>by
     induction l with
     | nil=>rfl
     | cons a l ih=>rw[List.flatMap_cons,List.map_cons,ih];rfl
    exact all fs
   rw[e]
 ·rw[if_neg h,if_neg h]
set_option maxHeartbeats 8000000
set_option maxRecDepth 100000
attribute [local irreducible] wpSteady
theorem rApply_w (o k n:Int)(fs:List FV)(A:Option Addr)(c:Nat)(w:World)(hr:FRd w w.heap.size A fs)(hc:fs.length≤100000000000000) :
  Calls Tryz.prog 56 #[ruV o k n,.slice A fs.length c] w (FeatR w (applyOf o k n fs)):=by
 rw[←rapp_eq]
 exact rApply_v o k n fs A c w hr hc
theorem take_nx {fs:List FV}{q:Nat}(h:q<fs.length):fs.take (q+1)=fs.take q++[fAt fs q]:=by
 rw[List.take_add_one,fAt_get h]
 rfl
theorem rRun_v (rs:List Ru)(fs:List FV)(Ar A:Option Addr)(cr c:Nat)(w:World)(hrr:Rd w w.heap.size 3 Ar (rs.map encR))(hr:FRd w w.heap.size A fs)(hcr:rs.length≤100000000000000)(hc:fs.length≤100000000000000) :
  Calls Tryz.prog 26 #[.slice Ar rs.length cr,.slice A fs.length c] w (FeatR w (runOf rs fs)):=by
 have hm:=hmix
 obtain⟨u,hu⟩:∃u,rsOk rs=u:=⟨_,rfl⟩
 obtain⟨v,hv⟩:∃u,FList fs=u:=⟨_,rfl⟩
 have k1:=hide (fun W (hg:Grew w W)=>rValid_v rs Ar cr u W (hrr.up hg) hcr hu)
 have k2:=hide (fun W (hg:Grew w W)=>v7List_v fs A c v W (hr.up hg) hc hv)
 have hro:runOf rs fs=if (u&&v)=true then runTo rs fs rs.length else ([],1):=by
  unfold runOf
  rw[hu,hv]
 rw[hro]
 have HR:=hide hr
 have HRR:=hide hrr
 have hcase:u=false∨(u=true∧v=false)∨(u=true∧v=true):=by cases u<;>cases v<;>simp
 rcases hcase with rfl|⟨rfl,rfl⟩|⟨rfl,rfl⟩
 ·rw[if_neg (by simp)]
  clear hu hv hr hrr hro
  go_enter Tryz.func26,Tryz.ntmps26
  go_wp2_with (first|(go_at_call 55;with_reducible refine crv (k1.out _ gw) fun _ _=>?_;dsimp only)|(go_at_call 45;with_reducible refine crv (k2.out _ gw) fun _ _=>?_;dsimp only))
  go_ret2
  exact⟨none,0,[],rfl,rfl,FRd.nil _ _ _,gw⟩
 ·rw[if_neg (by simp)]
  clear hu hv hr hrr hro
  go_enter Tryz.func26,Tryz.ntmps26
  go_wp2_with (first|(go_at_call 55;with_reducible refine crv (k1.out _ gw) fun _ _=>?_;dsimp only)|(go_at_call 45;with_reducible refine crv (k2.out _ gw) fun _ _=>?_;dsimp only))
  go_ret2
  exact⟨none,0,[],rfl,rfl,FRd.nil _ _ _,gw⟩
 ·rw[if_pos (by rfl)]
  have hlen:=list_len hv
  have hrl:=fun k hk=>run_len (rs:=rs) hlen k hk
  have HRL:=hide hrl
  obtain⟨i0,hi,hz0,hz1,hz2⟩:=fInfo_parts feInf
  clear hu hv hr hrr hro hrl
  go_enter Tryz.func26,Tryz.ntmps26
  go_wp2_with (first|(go_at_call 55;with_reducible refine crv (k1.out _ gw) fun _ _=>?_;dsimp only)|(go_at_call 45;with_reducible refine crv (k2.out _ gw) fun _ _=>?_;dsimp only))
  refine wp_name ?_
  intro W0 hW
  have HG0:Hid (Grew w W0):=hide (by rw[←hW];exact gw)
  clear hW k1 k2
  go_loopw [8,9] (fun v i wr=>∃q:Nat,q≤fs.length∧i=.int .i64 q∧Grew W0 wr∧wr.ownsRow W0.heap.size 54 9 v (fs.take q).length ((fs.take q).flatMap FV.cells)) (fun _ i _=>fs.length-(intOf i).toNat)
  case atStart=>exact⟨0,by omega,rfl,Grew.refl _,World.ownsRow_nil _ _ _ _⟩
  case round =>
   obtain⟨q,hq,rfl,hg,hown⟩:=hrel
   have HG:=hide hg
   by_cases hlt:q<fs.length
   ·obtain⟨b1,off1,hA1,hb1,fx⟩:=rowAt (HR.out.row.up (HG0.out.trans hg)) hlt
    have hix1:=idx_run (cap:=c) Tryz.underlying22 Tryz.sizeOf54 hA1.out hlt
    have htk:=take_nx hlt
    have htl:(fs.take q).length≤300:=by rw[List.length_take];omega
    obtain⟨x,hx⟩:∃x,fAt fs q=x:=⟨_,rfl⟩
    obtain⟨L,hL⟩:∃L,fs.take q=L:=⟨_,rfl⟩
    rw[hx] at fx htk
    rw[hL] at hown htk htl
    obtain⟨Av,cv,rfl,_⟩:=fown_slice hown
    obtain⟨c0,c1',c2,c3,c4,c5,c6,c7,c8⟩:=fx
    have HO:=hide hown
    have HTK:=hide htk
    clear hA1 hx hL hown htk hg
    go_wp2_with (at_builtin;refine AppG3.stop ?_)
    refine AppG3.go ?_
    refine wpList_append_any _ rfl (.tmp 29) (.tmp 34) _ rfl W0.heap.size 54 i0 _ 9 104 Tryz.underlying22 hi hz0 hz1 hz2 rfl (by omega) _ L.length (L.flatMap FV.cells) rfl (fown_grew HO.out gw) _ (some ⟨_,0,none⟩) 1 1 ([x].flatMap FV.cells) rfl ((Rd.lit1 _ x _ (by first|rfl|simp[hs_dr])).reads fv_len (by omega)) (fv_one _) (by simp only[maxLen];omega) (by omega) (by have:=HG.out.below.size;(try simp[hs_dr]);omega) ?_
    intro v' w1 hown1 hg1 _
    have HG2:Hid (Grew W0 w1):=hide (ggrown (HG.out.trans gw) (fown_grew HO.out gw) (Nat.le_refl _) hg1)
    have HO1:=hide hown1
    clear hown1 hg1
    go_wp2_with fail
    go_roundw
    case rel=>exact⟨q+1,by omega,by go_num,HG2.out.trans gw,by rw[HTK.out,List.length_append,List.flatMap_append];exact fown_grew HO1.out gw⟩
    case measure=>simp[intOf];omega
   ·obtain rfl:q=fs.length:=by omega
    rw[List.take_length] at hown
    obtain⟨A1,c1,rfl,hc1,hrd1⟩:=Rd.of_own fv_len hown rfl
    obtain⟨W1,hW1⟩:∃W,W=wr:=⟨wr,rfl⟩
    subst hW1
    have HG1:Hid (Grew w W1):=hide (HG0.out.trans hg)
    have HF1:Hid (FRd W1 W1.heap.size A1 fs):=hide ⟨hrd1,fun f hf=>(HR.out.each f hf).up HG1.out⟩
    clear hown hg hrd1 HG
    go_wp2_with fail
    go_loopw [8,10] (fun ov i wr=>∃ (k:Nat) (cur:List FV) (A':Option Addr) (c':Nat),k≤rs.length∧i=.int .i64 k∧ov=.slice A' cur.length c'∧Grew W1 wr∧Hid (FRd wr wr.heap.size A' cur)∧Hid (cur.map FV.bare=(runTo rs fs k).1.map FV.bare)∧Hid ((runTo rs fs k).2=0)) (fun _ i _=>rs.length-(intOf i).toNat)
    case atStart=>exact⟨0,fs,A1,c1,by omega,rfl,rfl,gw,hide (HF1.out.up gw),hide rfl,hide rfl⟩
    case round =>
     obtain⟨k,cur,A',c',hk,rfl,rfl,hg,HF,HB,HE⟩:=hrel
     have HG:=hide hg
     have hcl:=len_of HB.out
     have hrk:=HRL.out k hk
     rw[←hcl] at hrk
     clear hcl
     by_cases hlt:k<rs.length
     ·obtain⟨b,off,hA,hb,h0,h1,h2⟩:=ruCells (HRR.out.up (HG1.out.trans hg)) hlt
      have hix:=idx_run (cap:=cr) Tryz.underlying23 Tryz.sizeOf48 hA.out hlt
      have hst:=runTo_succ (fs:=fs) hlt
      unfold runStep at hst
      rw[if_pos HE.out] at hst
      obtain⟨x,hx⟩:∃x,ruAt rs k=x:=⟨_,rfl⟩
      rw[hx] at h0 h1 h2 hst
      clear hx hA hg
      obtain⟨x1,x2,x3⟩:=x
      dsimp only at h0 h1 h2 hst
      have hap:=apply_of (o:=x1) (k:=x2) (n:=x3) HB.out
      rw[←hst] at hap
      have ka:=hide (fun W (hg:Grew wr W)=>rApply_w x1 x2 x3 cur A' c' W (HF.out.up hg) (by omega))
      have her:=fun h=>apply_err (o:=x1) (k:=x2) (n:=x3) (fs:=cur) h
      generalize applyOf x1 x2 x3 cur=ap at *
      obtain⟨al,ae⟩:=ap
      dsimp only at hap ka her
      have HAP:=hide hap
      have HER:=hide her
      clear hst hap her
      go_wp2_with fail
      refine (ka.out _ gw).mono ?_
      rintro e W2 ⟨A2,c2,cur2,rfl,hba,hrd2,hg2⟩
      have HG2:Hid (Grew wr W2):=hide (Grew.trans gw hg2)
      have HF2:=hide hrd2
      have HBA:=hide (hba.trans HAP.out.1)
      clear hrd2 hg2 hba ka
      dsimp only
      by_cases hae:ae=0
      ·subst hae
       go_wp2_with fail
       go_roundw
       case rel=>exact⟨k+1,cur2,A2,c2,by omega,by go_num,rfl,HG.out.trans (HG2.out.trans gw),hide (HF2.out.up gw),HBA,hide HAP.out.2.symm⟩
       case measure=>simp[intOf];omega
      ·have hne:(ae != 0)=true:=by simpa using hae
       have hres:runTo rs fs rs.length=([],ae):=by
        have h3:(runTo rs fs (k+1)).2≠0:=by rw[←HAP.out.2];exact hae
        rw[run_stop h3 rs.length (by omega) (Nat.le_refl _)]
        have h4:=HAP.out.1
        rw[HER.out hae] at h4
        have h5:(runTo rs fs (k+1)).1=[]:=by simpa using h4.symm
        exact Prod.ext h5 HAP.out.2.symm
       have HRES:=hide hres
       clear hres
       go_wp2_with fail
       go_ret2
       rw[HRES.out]
       exact⟨none,0,[],rfl,rfl,FRd.nil _ _ _,HG1.out.trans (HG.out.trans (HG2.out.trans gw))⟩
     ·obtain rfl:k=rs.length:=by omega
      go_wp2_with fail
      go_ret2
      exact⟨A',c',cur,by rw[HE.out];rfl,HB.out,HF.out.up gw,HG1.out.trans (HG.out.trans gw)⟩
end Go.Proofs.YtblgdlnmabkpoaaGreat

