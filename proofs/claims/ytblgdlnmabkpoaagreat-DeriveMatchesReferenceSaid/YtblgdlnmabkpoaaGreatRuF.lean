/- Package rule: what a thinning does, in plain words; the function that looks for a near disc. Package rule: thin. -/
import Derived.Test.YtblgdlnmabkpoaaGreatRuD
import Derived.Test.YtblgdlnmabkpoaaGreatFeS
import Derived.Test.YtblgdlnmabkpoaaGreatPle
set_option linter.unusedSimpArgs false
set_option linter.unusedVariables false
set_option maxHeartbeats 16000000
set_option maxRecDepth 100000
namespace Go.Proofs.YtblgdlnmabkpoaaGreat
open Go.RowKit Go.Sort Go.Lib
attribute [local go_sem] Steady steadyUpon
attribute [local go_sem ↓] hs_dr lt_add_r lt_add_r2 lt_add_r3 lt_add_r4 lt_add_r5 lt_add_r6
attribute [local go_sem] cell?_gd frozen?_gd setCell_gd size_grow tape_grow cell?_grow' frozen?_grow' setCell_grow' grow_grow grow_dr grow_drew dr_dr dr_drew drew_dr dr_alloc dr_setCell dr_cell dr_frozen dr_tape dr_drawn
attribute [local irreducible] wpSteady
def nearF (n:Int)(f g:FV):Bool:=(nearOf (f.x,f.y) (g.x,g.y) (g.x,g.y) n).1
def liesF (f g:FV):Bool:=(liesOf (f.x,f.y) f.rad (g.x,g.y) g.rad).1
def hiF (f g:FV):Int:=(distOf (f.x,f.y) (g.x,g.y)).1.2
def growF (f g:FV):FV:={ g with rad:=hiF f g+f.rad }
def joinF (f g:FV):FV:=if 100000<g.rad then g else if liesF f g=true then g else growF f g
def thinStep (n:Int)(kept:List FV)(f:FV):List FV:=match kept.findIdx? (nearF n f) with|none=>kept++[f]|some k=>kept.set k (joinF f (fAt kept k))
def keptTo (n:Int)(ds:List FV)(m:Nat):List FV:=(ds.take m).foldl (thinStep n) []
def othersOf (k:Int)(fs:List FV):List FV:=fs.filter fun f => !isKind k f
def discsOf (k:Int)(fs:List FV):List FV:=(fs.filter (isKind k)).mergeSort leD
def thinOf (k n:Int)(fs:List FV):List FV:=(othersOf k fs++keptTo n (discsOf k fs) (discsOf k fs).length).mergeSort leI
theorem keptTo_succ {n:Int}{ds:List FV}{m:Nat}(h:m<ds.length):keptTo n ds (m+1)=thinStep n (keptTo n ds m) (fAt ds m):=by
 unfold keptTo
 rw[List.take_add_one,fAt_get h,List.foldl_append]
 rfl
theorem step_none {n:Int}{kept:List FV}{f:FV}(h:∀m,m<kept.length→nearF n f (fAt kept m)=false):thinStep n kept f=kept++[f]:=by
 unfold thinStep
 rw[List.findIdx?_eq_none_iff.2 (fun x hx=>?_)]
 obtain⟨m,hm,e⟩:=List.getElem_of_mem hx
 have:=h m hm
 have a:=fAt_get hm
 rw[List.getElem?_eq_getElem hm,e] at a
 injection a with a
 rw[a]
 exact this
theorem step_some {n:Int}{kept:List FV}{f:FV}{k:Nat}(hk:k<kept.length)(h1:nearF n f (fAt kept k)=true)(h2:∀m,m<k→nearF n f (fAt kept m)=false):thinStep n kept f=kept.set k (joinF f (fAt kept k)):=by
 unfold thinStep
 have e:∀m,(h:m<kept.length)→kept[m]=fAt kept m:=fun m h=>by
  have a:=fAt_get h
  rw[List.getElem?_eq_getElem h] at a
  injection a
 rw[List.findIdx?_eq_some_iff_getElem.2 ⟨hk,by rw[e];exact h1,fun j hj=>by rw[e,h2 j hj];simp⟩]
/-- g is one of fs, with a radius of its own. -/
def Src (fs:List FV)(g:FV):Prop:=∃f,f∈fs∧g={ f with rad:=g.rad }
theorem Src.of {fs:List FV}{f:FV}(h:f∈fs):Src fs f:=⟨f,h,rfl⟩
theorem Src.mono {fs gs:List FV}{g:FV}(h:Src fs g)(hs:∀f,f∈fs→f∈gs):Src gs g:=h.imp fun _ h=>⟨hs _ h.1,h.2⟩
theorem Src.grow {fs:List FV}{g:FV}(h:Src fs g)(r:Int):Src fs { g with rad:=r }:=by
 obtain⟨f,hf,e⟩:=h
 exact⟨f,hf,by rw[e]⟩
theorem Src.rd {fs:List FV}{g:FV}{w:World}{B:Nat}(h:Src fs g)(hr:∀f,f∈fs→f.rd w B):g.rd w B:=by
 obtain⟨f,hf,e⟩:=h
 have:=hr f hf
 rw[e]
 exact⟨this.area,this.secs,this.la,this.ls,this.lc⟩
theorem hi_bd (f g:FV):0≤hiF f g∧hiF f g≤8388608:=by
 unfold hiF distOf
 split
 ·rename_i h
  split
  ·simp
  ·have h2:plOk f.x f.y=true∧plOk g.x g.y=true:=by simpa[Pt.ok] using h
   have hd:=dt_bd (a:=(f.x,f.y)) (b:=(g.x,g.y)) (c:=(g.x,g.y)) h2.1 h2.2 h2.2
   have hd0:=dt_nn (f.x,f.y) (g.x,g.y)
   obtain⟨h3,h4,_⟩:=root_spec _ hd0 (by omega)
   split
   ·exact⟨h3,by dsimp only;omega⟩
   ·dsimp only
    omega
 ·simp
/-- What is known of what is kept. -/
structure Kept (ds:List FV) (g:FV):Prop where
 src:Src ds g
 rad:0≤g.rad∧g.rad≤9000000
theorem kept_join {ds:List FV}{f g:FV}(hf:0≤f.rad∧f.rad≤100000)(hg:Kept ds g):Kept ds (joinF f g):=by
 unfold joinF
 split
 ·exact hg
 ·split
  ·exact hg
  ·have:=hi_bd f g
   exact⟨hg.src.grow _,by show 0≤hiF f g+f.rad∧hiF f g+f.rad≤9000000;omega⟩
theorem kept_step {ds kept:List FV}{n:Int}{f:FV}(hf:0≤f.rad∧f.rad≤100000)(hm:f∈ds)(h:∀g,g∈kept→Kept ds g):∀g,g∈thinStep n kept f→Kept ds g:=by
 intro g hg
 unfold thinStep at hg
 split at hg
 ·rcases List.mem_append.1 hg with hg|hg
  ·exact h g hg
  ·rw[List.mem_singleton.1 hg]
   exact⟨Src.of hm,by omega⟩
 ·rename_i k hk
  rcases List.mem_or_eq_of_mem_set hg with hg|hg
  ·exact h g hg
  ·rw[hg]
   have hk2:k<kept.length:=(List.findIdx?_eq_some_iff_getElem.1 hk).1
   exact kept_join hf (h _ (fAt_mem hk2))
theorem kept_all {ds:List FV}{n:Int}(hd:∀f,f∈ds→0≤f.rad∧f.rad≤100000):∀m,m≤ds.length→∀g,g∈keptTo n ds m→Kept ds g
 | 0,_=>fun g hg=>by simp[keptTo] at hg
 | m+1,h=>by
  rw[keptTo_succ (by omega)]
  exact kept_step (hd _ (fAt_mem (by omega))) (fAt_mem (by omega)) (kept_all hd m (by omega))
theorem join_id (f g:FV):(joinF f g).id=g.id:=by
 unfold joinF
 split
 ·rfl
 ·split<;>rfl
theorem step_ids {n:Int}{kept:List FV}{f:FV}:(thinStep n kept f).map FV.id=kept.map FV.id∨(thinStep n kept f).map FV.id=kept.map FV.id++[f.id]:=by
 unfold thinStep
 split
 ·right
  simp
 ·left
  rename_i k hk
  have hk2:k<kept.length:=(List.findIdx?_eq_some_iff_getElem.1 hk).1
  rw[List.map_set,join_id]
  apply List.ext_getElem?
  intro i
  by_cases hi:i=k
  ·subst hi
   rw[List.getElem?_set_self (by simpa using hk2),List.getElem?_map,fAt_get hk2]
   rfl
  ·rw[List.getElem?_set_ne (fun e=>hi e.symm)]
theorem kept_ids {n:Int}{ds:List FV}:∀m,m≤ds.length→((keptTo n ds m).map FV.id).Sublist ((ds.take m).map FV.id)
 | 0,_=>by simp[keptTo]
 | m+1,h=>by
  have ih:=kept_ids (n:=n) (ds:=ds) m (by omega)
  rw[keptTo_succ (by omega),List.take_add_one,fAt_get (by omega),List.map_append]
  rcases step_ids (n:=n) (kept:=keptTo n ds m) (f:=fAt ds m) with e|e
  ·rw[e]
   exact ih.trans (List.sublist_append_left _ _)
  ·rw[e]
   exact ih.append (List.Sublist.refl _)
theorem kept_len {n:Int}{ds:List FV}{m:Nat}(h:m≤ds.length):(keptTo n ds m).length≤m:=by
 have:=(kept_ids (n:=n) m h).length_le
 simp only[List.length_map,List.length_take] at this
 omega
theorem discs_perm (k:Int)(fs:List FV):(discsOf k fs).Perm (fs.filter (isKind k)):=List.mergeSort_perm _ _
theorem thin_ids {k n:Int}{fs:List FV}(h:(fs.map FV.id).Nodup):((othersOf k fs++keptTo n (discsOf k fs) (discsOf k fs).length).map FV.id).Nodup:=by
 have h1:((fs.filter (isKind k)++othersOf k fs).map FV.id).Nodup:=(((List.filter_append_perm (isKind k) fs).map FV.id).nodup_iff).2 h
 have h2:((othersOf k fs++discsOf k fs).map FV.id).Nodup:=by
  refine ((List.Perm.map FV.id ?_).nodup_iff).2 h1
  exact List.perm_append_comm.trans ((discs_perm k fs).append_right _)
 refine List.Nodup.sublist ?_ h2
 rw[List.map_append,List.map_append]
 have:=kept_ids (n:=n) (ds:=discsOf k fs) _ (Nat.le_refl _)
 rw[List.take_length] at this
 exact (List.Sublist.refl _).append this
/-- IDs of a valid list. -/
theorem list_asc {fs:List FV}(h:FList fs=true):∀i j,i<j→j<fs.length→(fAt fs i).id<(fAt fs j).id:=by
 have hu:∀k,k<fs.length→upOk fs k=true:=fun k hk=>by
  unfold FList upTo at h
  rw[Bool.and_eq_true,List.all_eq_true] at h
  exact h.1 k (List.mem_range.2 hk)
 have hs:∀k,k+1<fs.length→(fAt fs k).id<(fAt fs (k+1)).id:=fun k hk=>by
  have:=hu (k+1) hk
  unfold upOk lastId at this
  rw[Bool.and_eq_true,decide_eq_true_eq,if_neg (by omega),Nat.add_sub_cancel] at this
  exact this.2
 intro i j hij
 induction j with
 | zero=>omega
 | succ j ih =>
  intro hj
  by_cases e:i=j
  ·subst e;exact hs i hj
  ·exact Int.lt_trans (ih (by omega) (by omega)) (hs j hj)
theorem list_valid {fs:List FV}(h:FList fs=true):∀f,f∈fs→FValid f=true:=by
 intro f hf
 obtain⟨k,hk,e⟩:=List.getElem_of_mem hf
 unfold FList upTo at h
 rw[Bool.and_eq_true,List.all_eq_true] at h
 have:=h.1 k (List.mem_range.2 hk)
 unfold upOk at this
 rw[Bool.and_eq_true] at this
 have a:=fAt_get hk
 rw[List.getElem?_eq_getElem hk,e] at a
 injection a with a
 rw[a]
 exact this.1
theorem list_len {fs:List FV}(h:FList fs=true):fs.length≤300:=by
 unfold FList at h
 rw[Bool.and_eq_true,decide_eq_true_eq] at h
 exact h.2
theorem list_nodup {fs:List FV}(h:FList fs=true):(fs.map FV.id).Nodup:=by
 unfold List.Nodup
 rw[List.pairwise_map,List.pairwise_iff_getElem]
 intro i j hi hj hij
 have e:∀m,(h:m<fs.length)→fs[m]=fAt fs m:=fun m h=>by
  have a:=fAt_get h
  rw[List.getElem?_eq_getElem h] at a
  injection a
 rw[e,e]
 have:=list_asc h i j hij hj
 omega
theorem valid_rad {f:FV}(h:FValid f=true):0≤f.rad∧f.rad≤100000:=by
 unfold FValid baseOk at h
 rw[Bool.and_eq_true,decide_eq_true_eq] at h
 exact h.1.2.2.2
theorem tnear_v (f g:FV)(F R:Nat)(o k n:Int)(r:Bool)(w:World)(hF:FAt w F 0 f)(lF:F<w.heap.size)(hR:RuBox w R o k n)(h:nearF n f g=r) :
  Calls Tryz.prog 100 #[g.val,.pointer (some ⟨F,0,none⟩),.pointer (some ⟨R,0,none⟩)] w (Ret w (.bool r)):=by
 have hm:=hmix
 obtain⟨⟨u,e⟩,hu⟩:∃u,nearOf (f.x,f.y) (g.x,g.y) (g.x,g.y) n=u:=⟨_,rfl⟩
 have k1:=hide (fun W=>Near_v (f.x,f.y) (g.x,g.y) (g.x,g.y) n (u,e) W hu)
 unfold nearF at h
 rw[hu] at h
 dsimp only at h k1
 subst h
 have c2:=hF.c2
 have c3:=hF.c3
 rw[Nat.zero_add] at c2 c3
 obtain⟨⟨r0,r1,r2⟩,lR⟩:=hR
 clear hF hu
 go_enter Tryz.func100,Tryz.ntmps100
 go_wp2_with (go_at_call 101;with_reducible refine crv (k1.out _) fun _ _=>?_;dsimp only)
 go_ret
 exact Ret.mk' rfl gw
theorem tidx_v (f:FV)(fs:List FV)(A:Option Addr)(c F R:Nat)(o k n:Int)(w:World)(hF:FAt w F 0 f)(lF:F<w.heap.size)(hR:RuBox w R o k n)(hr:Rd w w.heap.size 9 A (fs.map FV.cells))(hc:fs.length≤1000) :
  Calls Tryz.prog 62 #[.slice A fs.length c,.func (.func 100) #[] #[.pointer (some ⟨F,0,none⟩),.pointer (some ⟨R,0,none⟩)]] w fun e w'=>FIdxP (nearF n f) fs e∧Grew w w':=by
 have hm:=hmix
 have HR:=hide hr
 have HF:=hide hF
 have HRu:=hide hR
 clear hr hF hR
 go_enter Tryz.func62,Tryz.ntmps62
 go_wp2_with fail
 go_loopw [8] (fun i wr=>∃m:Nat,m≤fs.length∧i=.int .i64 m∧Grew w wr∧AppG (∀j,j<m→nearF n f (fAt fs j)=false)) (fun i _=>fs.length-(intOf i).toNat)
 case atStart=>exact⟨0,by omega,rfl,gw,fun j hj=>by omega⟩
 case round =>
  obtain⟨m,hmm,rfl,hg,hall⟩:=hrel
  have HG:=hide hg
  have HA:=hide hall.stop
  clear hg hall
  by_cases hlt:m<fs.length
  ·obtain⟨b,off,hA,hb,fc⟩:=rowAt (HR.out.up HG.out) hlt
   have hix:=idx_run (cap:=c) Tryz.underlying22 Tryz.sizeOf54 hA.out hlt
   obtain⟨u,hu⟩:∃u,nearF n f (fAt fs m)=u:=⟨_,rfl⟩
   have k1:=hide (fun W (hg:Grew w W)=>tnear_v f (fAt fs m) F R o k n u W (HF.out.up hg lF) (Nat.lt_of_lt_of_le lF hg.below.size) (HRu.out.up hg) hu)
   have HU:=hide hu
   obtain⟨c0,c1,c2,c3,c4,c5,c6,c7,c8⟩:=fc
   clear hu hA
   cases u
   ·go_wp2_with (go_at_call 100;with_reducible refine crv (k1.out _ (HG.out.trans gw)) fun _ _=>?_;dsimp only)
    go_roundw
    case rel=>exact⟨m+1,by omega,by go_num,HG.out.trans gw,show ∀j,j<m+1→nearF n f (fAt fs j)=false from (fun j hj=>by
     by_cases e:j=m
     ·rw[e];exact HU.out
     ·exact HA.out j (by omega))⟩
    case measure=>simp[intOf];omega
   ·go_wp2_with (go_at_call 100;with_reducible refine crv (k1.out _ (HG.out.trans gw)) fun _ _=>?_;dsimp only)
    go_ret
    exact⟨.inr ⟨m,by omega,rfl,HU.out,HA.out⟩,HG.out.trans gw⟩
  ·obtain rfl:m=fs.length:=by omega
   go_wp2_with fail
   go_ret
   exact⟨.inl ⟨rfl,HA.out⟩,HG.out⟩
attribute [local go_sem] run_store_func'
def ThinP (w:World)(fs':List FV)(e:Ending)(w':World):Prop:=∃A' c',e=.returned (.slice A' fs'.length c')∧Rd w' w'.heap.size 9 A' (fs'.map FV.cells)∧Grew w w'∧fs'.length≤c'
theorem others_len (k:Int)(fs:List FV):(othersOf k fs).length≤fs.length:=List.length_filter_le _ _
theorem discs_len (k:Int)(fs:List FV):(discsOf k fs).length≤fs.length:=by
 unfold discsOf
 rw[List.length_mergeSort]
 exact List.length_filter_le _ _
theorem notno (k:Int)(fs:List FV):(fs.filter fun f => !noKind k f)=fs.filter (isKind k):=by
 congr 1
 funext f
 simp[noKind,isKind]
theorem thin_any (o k n:Int)(fs:List FV)(A:Option Addr)(c:Nat)(w:World)(hr:Rd w w.heap.size 9 A (fs.map FV.cells))(hl:FList fs=true) :
  Calls Tryz.prog 70 #[ruV o k n,.slice A fs.length c] w (ThinP w (thinOf k n fs)):=by
 have hm:=hmix
 have hlen:=list_len hl
 have hnd:=list_nodup hl
 have hva:∀f,f∈discsOf k fs→0≤f.rad∧f.rad≤100000:=fun f hf=>valid_rad (list_valid hl f (List.mem_filter.1 ((discs_perm k fs).mem_iff.1 hf)).1)
 obtain⟨i0,hi,hz0,hz1,hz2⟩:=fInfo_parts feInf
 have HR:=hide hr
 have HND:=hide hnd
 have HVA:=hide hva
 clear hr hl hnd hva
 go_enter Tryz.func70,Tryz.ntmps70
 go_wp2_with fail
 refine wp_name ?_
 intro W0 hW
 have HE:Hid (ThinEnv W0 w.heap.size (w.heap.size+1) o k n):=hide (by
  rw[←hW]
  refine⟨⟨⟨?_,?_,?_⟩,?_⟩,?_,?_⟩
  ·exact (blk_cell ((heap_alloc_old _ _ (by first|omega|(simp;done)|(simp;omega))).trans (heap_alloc_new _ _)) 0)
  ·exact (blk_cell ((heap_alloc_old _ _ (by first|omega|(simp;done)|(simp;omega))).trans (heap_alloc_new _ _)) 1)
  ·exact (blk_cell ((heap_alloc_old _ _ (by first|omega|(simp;done)|(simp;omega))).trans (heap_alloc_new _ _)) 2)
  ·exact (by first|omega|(simp;done)|(simp;omega))
  ·exact (blk_cell (heap_alloc_at _ _ _ (by simp)) 0)
  ·exact (by first|omega|(simp;done)|(simp;omega)))
 have HG0:Hid (Grew w W0):=hide (by rw[←hW];exact gw)
 have hs0:W0.heap.size=w.heap.size+2:=by rw[←hW];simp
 clear hW
 have lO:w.heap.size+1<W0.heap.size:=by omega
 have lR:w.heap.size<W0.heap.size:=by omega
 have hO:=HE.out.own
 refine wp_region_held_drew (S:=(fun w'=>w'.cell? ⟨w.heap.size+1,0,none⟩=some (.func (.func 93) #[] #[.pointer (some ⟨w.heap.size,0,none⟩)]))) hm ?_ (fun hHeld=>?_)
 ·exact (ThinEnv.up HE.out gw).own
 refine tk 0 ?_
 refine tk 2 ?_
 try simp only[Act.put,setA,getA]
 refine wpAnyH_ready (rs:=[1]) (by kernel_rfl) (by simp) ?_
 refine AllReadyH.cons (o:=_) rfl (fun K hK=>?_) AllReadyH.nil
 go_simp
 first|((go_at_call 50);(refine (CloneF_any fs A c _ (HR.out.up (HG0.out.trans gw)) (by omega)).mono ?_);rintro e W1 ⟨v1,rfl,hown,hg⟩;have HG1:Hid (Grew W0 W1):=hide (Grew.trans gw hg);have HO1:Hid (W1.ownsRow W0.heap.size 54 9 v1 fs.length (fs.flatMap FV.cells)):=hide hown;clear hown hg;dsimp only)|((go_at_call 94);(refine (own_del fs v1 W0.heap.size w.heap.size (w.heap.size+1) o k n _ (HE.out.up gw) lR lO (by simpa[hs_dr] using HG1.out.below.size) (fown_grew HO1.out gw) (by omega)).mono ?_);rintro e W2 ⟨v2,rfl,hown,hg⟩;have HG2:Hid (Grew W0 W2):=hide (ggrown (Grew.trans HG1.out gw) (fown_grew HO1.out gw) (Nat.le_refl _) hg);have HO2:Hid (W2.ownsRow W0.heap.size 54 9 v2 (othersOf k fs).length ((othersOf k fs).flatMap FV.cells)):=hide hown;clear hown hg;dsimp only)|skip
 refine hK.out _ _ ?_ (fun hHeld=>?_)
 ·exact (ThinEnv.up HE.out gw).own
 clear hK K
 try simp only[Act.put,setA,getA]
 refine wpAnyH_ready (rs:=[3]) (by kernel_rfl) (by simp) ?_
 refine AllReadyH.cons (o:=_) rfl (fun K hK=>?_) AllReadyH.nil
 go_simp
 first|((go_at_call 50);(refine (CloneF_any fs A c _ (HR.out.up (HG0.out.trans gw)) (by omega)).mono ?_);rintro e W1 ⟨v1,rfl,hown,hg⟩;have HG1:Hid (Grew W0 W1):=hide (Grew.trans gw hg);have HO1:Hid (W1.ownsRow W0.heap.size 54 9 v1 fs.length (fs.flatMap FV.cells)):=hide hown;clear hown hg;dsimp only)|((go_at_call 94);(refine (own_del fs v1 W0.heap.size w.heap.size (w.heap.size+1) o k n _ (HE.out.up gw) lR lO (by simpa[hs_dr] using HG1.out.below.size) (fown_grew HO1.out gw) (by omega)).mono ?_);rintro e W2 ⟨v2,rfl,hown,hg⟩;have HG2:Hid (Grew W0 W2):=hide (ggrown (Grew.trans HG1.out gw) (fown_grew HO1.out gw) (Nat.le_refl _) hg);have HO2:Hid (W2.ownsRow W0.heap.size 54 9 v2 (othersOf k fs).length ((othersOf k fs).flatMap FV.cells)):=hide hown;clear hown hg;dsimp only)|skip
 refine hK.out _ _ ?_ (fun hHeld=>?_)
 ·exact (ThinEnv.up HE.out gw).own
 clear hK K
 try simp only[Act.put,setA,getA]
 refine tk 4 ?_
 try simp only[Act.put,setA,getA]
 refine wpAnyH_done (by kernel_rfl) ?_ _
 go_wp2_with fail
 refine (CloneF_any fs A c _ (HR.out.up (HG0.out.trans (HG2.out.trans gw))) (by omega)).mono ?_
 rintro e W3 ⟨v3,rfl,hown,hg⟩
 have HG3:Hid (Grew W2 W3):=hide (Grew.trans gw hg)
 have HO3:Hid (W3.ownsRow W2.heap.size 54 9 v3 fs.length (fs.flatMap FV.cells)):=hide hown
 have hs2:=HG2.out.below.size
 clear hown hg
 dsimp only
 go_wp2_with fail
 refine (nown_del fs v3 W2.heap.size w.heap.size (w.heap.size+1) o k n _ (HE.out.up (HG2.out.trans (HG3.out.trans gw))) (by omega) (by omega) (by simpa[hs_dr] using HG3.out.below.size) (fown_grew HO3.out gw) (by omega)).mono ?_
 rintro e W4 ⟨v4,rfl,hown,hg⟩
 rw[notno] at hown
 have HG4:Hid (Grew W2 W4):=hide (ggrown (Grew.trans HG3.out gw) (fown_grew HO3.out gw) (Nat.le_refl _) hg)
 have HO4:=hide hown
 clear hown hg
 dsimp only
 go_wp2_with fail
 have hnd4:((fs.filter (isKind k)).map FV.id).Nodup:=List.Nodup.sublist ((List.filter_sublist (p:=isKind k)).map FV.id) HND.out
 refine (sortD_all W2.heap.size v4 (fs.filter (isKind k)) _ (fown_grew HO4.out gw) (by have:=List.length_filter_le (isKind k) fs;omega) hnd4).mono ?_
 rintro e W5 ⟨rfl,hg,⟨A5,c5,rfl,hrd⟩⟩
 have HG5:Hid (Grew W2 W5):=hide (ggrown (Grew.trans HG4.out gw) (fown_grew HO4.out gw) (Nat.le_refl _) hg)
 have hd5:(fs.filter (isKind k)).length=(discsOf k fs).length:=(List.length_mergeSort _).symm
 rw[hd5]
 have HD:Hid (Rd W5 W5.heap.size 9 A5 ((discsOf k fs).map FV.cells)):=hide hrd
 have HE5:=hide (HE.out.up (HG2.out.trans HG5.out))
 have hdl:=discs_len k fs
 have hol:=others_len k fs
 obtain⟨ds,hds⟩:∃ds,discsOf k fs=ds:=⟨_,rfl⟩
 have HDS:=hide hds
 rw[hds] at HD hdl HVA
 rw[hds]
 clear hrd hg hd5 hnd4 hds HO4 HO3 HG3 HG4
 dsimp only
 go_wp2_with fail
 refine wp_name ?_
 intro W6 hW
 have HG6:Hid (Grew W5 W6):=hide (by rw[←hW];exact gw)
 clear hW
 have HD6:=hide (HD.out.up HG6.out)
 have HE6:=hide (HE5.out.up HG6.out)
 go_loopw [8,31] (fun kv i wr=>∃m:Nat,m≤ds.length∧i=.int .i64 m∧Grew W6 wr∧wr.ownsRow W6.heap.size 54 9 kv (keptTo n ds m).length ((keptTo n ds m).flatMap FV.cells)) (fun _ i _=>ds.length-(intOf i).toNat)
 case atStart=>exact⟨0,by omega,rfl,Grew.refl _,World.ownsRow_nil _ _ _ _⟩
 case round =>
  obtain⟨m,hmm,rfl,hg,hown⟩:=hrel
  have HG:=hide hg
  have hkl:=kept_len (n:=n) hmm
  have hka:=kept_all (n:=n) HVA.out m hmm
  by_cases hlt:m<ds.length
  ·obtain⟨b,off,hA,hb,fc⟩:=rowAt (HD6.out.up hg) hlt
   have hix:=idx_run (cap:=c5) Tryz.underlying22 Tryz.sizeOf54 hA.out hlt
   have hst:=keptTo_succ (n:=n) hlt
   have hfr:=HVA.out _ (fAt_mem hlt)
   obtain⟨f,hf⟩:∃f,fAt ds m=f:=⟨_,rfl⟩
   rw[hf] at fc hst hfr
   obtain⟨kept,hk⟩:∃l,keptTo n ds m=l:=⟨_,rfl⟩
   rw[hk] at hown hkl hst hka
   obtain⟨A7,c7,rfl,hc7,hrd7⟩:=Rd.of_own fv_len hown rfl
   have HK:=hide hown
   have HRD:=hide hrd7
   have HST:=hide hst
   have k1:=hide (fun W (hg:Grew wr W) (hF:FAt W wr.heap.size 0 f) (hl:wr.heap.size<W.heap.size)=>tidx_v f kept A7 c7 wr.heap.size w.heap.size o k n W hF hl (HE6.out.box.up (HG.out.trans hg)) (HRD.out.up hg) (by omega))
   obtain⟨c0,c1,c2,c3,c4,c5',c6,c7',c8⟩:=fc
   clear hst hown hrd7 hg hA hf hk
   go_wp2_with fail
   refine (k1.out _ gw (FAt.new _ f) (by simp)).mono ?_
   rintro e w' ⟨h,⟨⟨n1,os1⟩,rfl⟩⟩
   rcases h with⟨rfl,hn⟩|⟨q,hq,rfl,h1,h2⟩
   ·have hst:=HST.out.trans (step_none hn)
    have HS2:=hide hst
    clear hn hst k1
    dsimp only
    go_wp2_with (at_builtin;refine AppG3.stop ?_)
    refine AppG3.go ?_
    refine wpList_append_any _ rfl (.tmp 40) (.tmp 42) _ rfl W6.heap.size 54 i0 _ 9 104 Tryz.underlying22 hi hz0 hz1 hz2 rfl (by omega) _ kept.length (kept.flatMap FV.cells) rfl (fown_grew HK.out gw) _ (some ⟨_,0,none⟩) 1 1 ([f].flatMap FV.cells) rfl ((Rd.lit1 _ f _ (by simp[hs_dr])).reads fv_len (by omega)) (fv_one _) (by simp only[maxLen];omega) (by omega) (by have:=HG.out.below.size;simp[hs_dr];omega) ?_
    intro v' w1 hown1 hg1 _
    have HO1:=hide hown1
    have HG1':Hid (Grew W6 w1):=hide (ggrown (HG.out.trans gw) (fown_grew HK.out gw) (Nat.le_refl _) hg1)
    clear hown1 hg1
    go_wp2_with fail
    go_roundw
    case rel=>exact⟨m+1,by omega,by go_num,HG1'.out,by rw[HS2.out,List.length_append,List.flatMap_append];exact HO1.out⟩
    case measure=>simp[intOf];omega
   ·have hst:=HST.out.trans (step_some hq h1 h2)
    obtain⟨gk,rfl⟩:∃gk,A7=some ⟨gk,0,none⟩:=by
     rcases HK.out.2 with⟨h',h0⟩|⟨g',cap',cur,h',_⟩
     ·omega
     ·simp only[Value.slice.injEq] at h'
      exact⟨g',h'.1⟩
    obtain⟨lg1,lg2⟩:=HK.out.lt gk rfl
    obtain⟨fcg,hfz⟩:=ownAt HK.out rfl hq
    have hkq:=hka _ (fAt_mem hq)
    have hself:=set_fAt hq
    have hix2:=idx_run (cap:=c7) (k:=q) (len:=kept.length) Tryz.underlying22 Tryz.sizeOf54 (A:=some ⟨gk,0,none⟩) rfl hq
    rw[Nat.zero_add] at hix2
    have hown2:=fun (X:World) (hg:Grew wr X) (x:Int)=>rad_own (fown_grew HK.out hg) hq x
    obtain⟨g,hgg⟩:∃g,fAt kept q=g:=⟨_,rfl⟩
    rw[hgg] at hst fcg hkq hself hown2
    obtain⟨d0,d1,d2,d3,d4,d5,d6,d7,d8⟩:=fcg
    obtain⟨⟨u,e2⟩,hu⟩:∃u,liesOf (f.x,f.y) f.rad (g.x,g.y) g.rad=u:=⟨_,rfl⟩
    obtain⟨⟨⟨d,d'⟩,e3⟩,hd⟩:∃u,distOf (f.x,f.y) (g.x,g.y)=u:=⟨_,rfl⟩
    have hj:joinF f g=if 100000<g.rad then g else if u=true then g else { g with rad:=d'+f.rad }:=by
     unfold joinF liesF growF hiF
     rw[hu,hd]
    rw[hj] at hst
    have hdb:=hi_bd f g
    unfold hiF at hdb
    rw[hd] at hdb
    dsimp only at hdb
    have kl:=hide (fun W=>Lies_v (f.x,f.y) f.rad (g.x,g.y) g.rad (u,e2) W hu)
    have kd:=hide (fun W=>Dist_v (f.x,f.y) (g.x,g.y) ((d,d'),e3) W hd)
    dsimp only at kl kd
    have hgr:=hkq.rad
    have HS2:=hide hst
    have HSE:=hide hself
    have HOW:=hide hown2
    clear h1 h2 hst hka hkq hj hu hd hgg hself k1 hown2
    dsimp only
    by_cases hbig:100000<g.rad
    ·rw[if_pos hbig] at HS2
     go_wp2_with fail
     go_roundw
     case rel=>exact⟨m+1,by omega,by go_num,HG.out.trans gw,by rw[HS2.out,HSE.out];exact fown_grew HK.out gw⟩
     case measure=>simp[intOf];omega
    ·rw[if_neg hbig] at HS2
     cases u
     ·rw[if_neg (by simp)] at HS2
      go_wp2_with fail
      refine wp_region_qas 18 [] [] hm (h:=?_)
      repeat (refine wpSteady_step (fun K hK=>?_);go_simp;first|(refine hK _ ?_;clear hK K)|(apply Exists.intro;refine⟨fun _=>?_,hK _ ?_⟩;(go_at_call 102;with_reducible exact kl.out _);clear hK K))
      refine rq0 fun nqa osqa=>?_
      try simp only[Act.put,setA]
      try dsimp only
      go_wp2_with fail
      refine wp_region_qas 13 [⟨10,11,15,134,.agg #[.int .i64 0,.int .i64 0]⟩] [] hm (hZ:=(ZOk.cons Tryz.zeroValue134 Tryz.sizeOf134 ZOk.nil)) (h:=?_)
      repeat (refine wpSteady_step (fun K hK=>?_);go_simp;first|(refine hK _ ?_;clear hK K)|(apply Exists.intro;refine⟨fun _=>?_,hK _ ?_⟩;(go_at_call 103;with_reducible exact kd.out _);clear hK K))
      refine wpSteady_nil ?_
      refine⟨(StOk.cons (by rfl) (by simp[stOpnd,Act.eval,Value.cells,Value.oneCell']) StOk.nil),LyOk.nil,?_⟩
      rintro psq qsq Wq HWq HFq HBq
      obtain rfl:qsq=[]:=HBq
      obtain⟨p0,_,rfl,hp0,hb0,hn0,rfl⟩:=HFq
      simp only[putAll,putB,Act.put,setA]
      simp[stOpnd,Act.eval,Value.cells] at hb0
      have gc0_0:Wq.cell? ⟨p0,0,none⟩=some _:=blk_cell hb0 0
      have gc0_1:Wq.cell? ⟨p0,1,none⟩=some _:=blk_cell hb0 1
      have gf0:=blk_frozen hb0
      have gl0:=blk_lt hb0
      have gp0:=hide hp0
      clear hb0 hn0 hp0
      have oc:=old_cell HWq
      have of:=old_frozen HWq
      have ol:=old_lt HWq
      replace HWq:=hide HWq
      go_wp2_with fail
      go_roundw
      case rel=>exact⟨m+1,by omega,by go_num,gset (HG.out.trans gw) lg1,by rw[HS2.out,List.length_set];exact HOW.out _ gw _⟩
      case measure=>simp[intOf];omega
     ·rw[if_pos rfl] at HS2
      go_wp2_with fail
      refine wp_region_qas 18 [] [] hm (h:=?_)
      repeat (refine wpSteady_step (fun K hK=>?_);go_simp;first|(refine hK _ ?_;clear hK K)|(apply Exists.intro;refine⟨fun _=>?_,hK _ ?_⟩;(go_at_call 102;with_reducible exact kl.out _);clear hK K))
      refine rq0 fun nqa osqa=>?_
      try simp only[Act.put,setA]
      try dsimp only
      go_wp2_with fail
      go_roundw
      case rel=>exact⟨m+1,by omega,by go_num,HG.out.trans gw,by rw[HS2.out,HSE.out];exact fown_grew HK.out gw⟩
      case measure=>simp[intOf];omega
  ·obtain rfl:m=ds.length:=by omega
   have hka2:=hka
   have hrd7:=Rd.of_own fv_len hown rfl
   obtain⟨A7,c7,rfl,hc7,hrd7⟩:=hrd7
   have HK:=hide hown
   have HRD:=hide hrd7
   have hid:=thin_ids (k:=k) (n:=n) HND.out
   have hot:thinOf k n fs=(othersOf k fs++keptTo n ds ds.length).mergeSort leI:=by
    unfold thinOf
    rw[HDS.out]
   rw[HDS.out] at hid
   obtain⟨kept,hk⟩:∃l,keptTo n ds ds.length=l:=⟨_,rfl⟩
   rw[hk] at hid HK HRD hkl hot ⊢
   have HOTT:=hide hot
   have HID:=hide hid
   have HOT:=fown_grew HO2.out (HG5.out.trans (HG6.out.trans HG.out))
   have HO9:=hide HOT
   clear hg hown hka hka2 hrd7 hk hid hot HOT
   go_wp2_with (at_builtin;refine AppG3.stop ?_)
   refine AppG3.go ?_
   refine wpList_append_any _ rfl (.tmp 89) (.tmp 90) _ rfl W0.heap.size 54 i0 _ 9 104 Tryz.underlying22 hi hz0 hz1 hz2 rfl (by omega) _ (othersOf k fs).length ((othersOf k fs).flatMap FV.cells) rfl HO9.out wr.heap.size A7 kept.length c7 (kept.flatMap FV.cells) rfl (HRD.out.reads fv_len (by omega)) (fv_one _) (by simp only[maxLen];omega) (by omega) (by have:=HG.out.below.size;have:=HG6.out.below.size;have:=HG5.out.below.size;omega) ?_
   intro v' w1 hown1 hg1 _
   have HG1':Hid (Grew W0 w1):=hide (ggrown (HG2.out.trans (HG5.out.trans (HG6.out.trans HG.out))) HO9.out (Nat.le_refl _) hg1)
   rw[←List.flatMap_append,←List.length_append] at hown1
   have HO1':=hide hown1
   clear hown1 hg1
   go_wp2_with fail
   refine (sortI_all W0.heap.size v' (othersOf k fs++kept) _ (fown_grew HO1'.out gw) (by rw[List.length_append];omega) HID.out).mono ?_
   rintro e W9 ⟨rfl,hg,⟨A9,c9,rfl,hrd⟩⟩
   have HG9:Hid (Grew W0 W9):=hide (ggrown (Grew.trans HG1'.out gw) (fown_grew HO1'.out gw) (Nat.le_refl _) hg)
   have HRD9:=hide hrd
   clear hrd hg
   dsimp only
   go_wp2_with fail
   go_ret
   exact⟨A9,c9,by rw[HOTT.out,List.length_mergeSort];rfl,by rw[HOTT.out];exact HRD9.out.up gw,HG0.out.trans (HG9.out.trans gw),by
    obtain⟨_,_,e,h⟩:=fown_slice HO1'.out
    injection e with _ _ e3
    rw[HOTT.out,List.length_mergeSort,e3]
    exact h⟩
end Go.Proofs.YtblgdlnmabkpoaaGreat
