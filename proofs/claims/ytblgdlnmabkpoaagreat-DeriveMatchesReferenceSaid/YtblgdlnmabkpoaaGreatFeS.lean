/- The shelf's contracts of slices.SortFunc, laid at this program's numbers. The two orders of features that a thinning sorts by, with draws that only become more. slices.SortFunc of features. slices.SortFunc of features, nil too; one cell of a feature set in a row. -/
import Derived.Shelf.SlSortCmp.WholeK
import Derived.Ground.SlsfProg
import Derived.Test.YtblgdlnmabkpoaaGreatProg
import Derived.Test.YtblgdlnmabkpoaaGreatKitN
import Derived.Test.YtblgdlnmabkpoaaGreatFeE
import Derived.Sort.LotA
import Derived.Shelf.SlSortCmp.NoneTotal
set_option linter.unusedSimpArgs false
set_option linter.unusedVariables false
set_option maxHeartbeats 1600000
namespace Go.Proofs
open Go.Shelf
def Tryz.sortFe_ren:Go.Shelf.Ren:=⟨fun|6=>96|15=>142|14=>141|28=>184|29=>185|20=>176|21=>177|22=>178|23=>179|24=>180|25=>181|26=>182|27=>183|46=>202|47=>203|48=>204|49=>205|50=>206|57=>212|n=>n,fun|22=>22|24=>54|25=>130|3=>3|39=>166|0=>0|53=>203|55=>205|4=>4|46=>197|45=>196|50=>79|5=>5|9=>9|66=>216|70=>220|76=>226|77=>227|n=>n,fun|n=>n⟩
theorem Tryz.sortFe:Go.Proofs.SlLaysF0.n6 Tryz.prog Tryz.sortFe_ren:={
 mixed:=by kernel_rfl
 f6:=⟨Tryz.f96.name,by decide,Tryz.func96.trans (congrArg some (by kernel_rfl))⟩
 f14:=⟨Tryz.f141.name,by decide,Tryz.func141.trans (congrArg some (by kernel_rfl))⟩
 f15:=Tryz.func142.trans (congrArg some (by kernel_rfl))
 f20:=⟨Tryz.f176.name,by decide,Tryz.func176.trans (congrArg some (by kernel_rfl))⟩
 f21:=⟨Tryz.f177.name,by decide,Tryz.func177.trans (congrArg some (by kernel_rfl))⟩
 f22:=⟨Tryz.f178.name,by decide,Tryz.func178.trans (congrArg some (by kernel_rfl))⟩
 f23:=⟨Tryz.f179.name,by decide,Tryz.func179.trans (congrArg some (by kernel_rfl))⟩
 f24:=⟨Tryz.f180.name,by decide,Tryz.func180.trans (congrArg some (by kernel_rfl))⟩
 f25:=⟨Tryz.f181.name,by decide,Tryz.func181.trans (congrArg some (by kernel_rfl))⟩
 f26:=⟨Tryz.f182.name,by decide,Tryz.func182.trans (congrArg some (by kernel_rfl))⟩
 f27:=⟨Tryz.f183.name,by decide,Tryz.func183.trans (congrArg some (by kernel_rfl))⟩
 f28:=Tryz.func184.trans (congrArg some (by kernel_rfl))
 f29:=Tryz.func185.trans (congrArg some (by kernel_rfl))
 f46:=⟨Tryz.f202.name,by decide,Tryz.func202.trans (congrArg some (by kernel_rfl))⟩
 f47:=Tryz.func203.trans (congrArg some (by kernel_rfl))
 f48:=Tryz.func204.trans (congrArg some (by kernel_rfl))
 f49:=⟨Tryz.f205.name,by decide,Tryz.func205.trans (congrArg some (by kernel_rfl))⟩
 f50:=⟨Tryz.f206.name,by decide,Tryz.func206.trans (congrArg some (by kernel_rfl))⟩
 f57:=⟨Tryz.f212.name,by decide,Tryz.func212.trans (congrArg some (by kernel_rfl))⟩
 t0:=Tryz.underlying0
 a0:=Tryz.isAgg0
 z0:=Tryz.sizeOf0
 v0:=Tryz.zeroValue0
 t3:=Tryz.underlying3
 a3:=Tryz.isAgg3
 z3:=Tryz.sizeOf3
 v3:=Tryz.zeroValue3
 t4:=Tryz.underlying4
 a4:=Tryz.isAgg4
 z4:=Tryz.sizeOf4
 v4:=Tryz.zeroValue4
 t5:=Tryz.underlying5
 a5:=Tryz.isAgg5
 z5:=Tryz.sizeOf5
 v5:=Tryz.zeroValue5
 t9:=Tryz.underlying9
 a9:=Tryz.isAgg9
 z9:=Tryz.sizeOf9
 v9:=Tryz.zeroValue9
 t22:=Tryz.underlying22
 a22:=Tryz.isAgg22
 z22:=Tryz.sizeOf22
 v22:=Tryz.zeroValue22
 t25:=Tryz.underlying130
 a25:=Tryz.isAgg130
 z25:=Tryz.sizeOf130
 v25:=Tryz.zeroValue130
 t39:=Tryz.underlying166
 a39:=Tryz.isAgg166
 z39:=Tryz.sizeOf166
 v39:=Tryz.zeroValue166
 t45:=Tryz.underlying196
 a45:=Tryz.isAgg196
 z45:=Tryz.sizeOf196
 v45:=Tryz.zeroValue196
 t46:=Tryz.underlying197
 a46:=Tryz.isAgg197
 z46:=Tryz.sizeOf197
 v46:=Tryz.zeroValue197
 t50:=Tryz.underlying79
 a50:=Tryz.isAgg79
 z50:=Tryz.sizeOf79
 v50:=Tryz.zeroValue79
 t53:=Tryz.underlying203
 a53:=Tryz.isAgg203
 z53:=Tryz.sizeOf203
 v53:=Tryz.zeroValue203
 t55:=Tryz.underlying205
 a55:=Tryz.isAgg205
 z55:=Tryz.sizeOf205
 v55:=Tryz.zeroValue205
 t66:=Tryz.underlying216
 a66:=Tryz.isAgg216
 z66:=Tryz.sizeOf216
 v66:=Tryz.zeroValue216
 t70:=Tryz.underlying220
 a70:=Tryz.isAgg220
 z70:=Tryz.sizeOf220
 v70:=Tryz.zeroValue220
 t76:=Tryz.underlying226
 a76:=Tryz.isAgg226
 z76:=Tryz.sizeOf226
 v76:=Tryz.zeroValue226
 t77:=Tryz.underlying227
 a77:=Tryz.isAgg227
 z77:=Tryz.sizeOf227
 v77:=Tryz.zeroValue227
}
end Go.Proofs
namespace Go.Proofs.YtblgdlnmabkpoaaGreat
/-- By depth, then by ID. -/
def ordD (u v:FV):Int:=if sg (u.dep-v.dep)=0 then sg (u.id-v.id) else sg (u.dep-v.dep)
def ordI (u v:FV):Int:=sg (u.id-v.id)
end Go.Proofs.YtblgdlnmabkpoaaGreat
namespace Go.Proofs.YtblgdlnmabkpoaaGreat.M
open Go.RowKit Go.Sort
attribute [local go_sem] Steady steadyUpon
attribute [local go_sem ↓] hs_dr lt_add_r lt_add_r2 lt_add_r3 lt_add_r4 lt_add_r5 lt_add_r6
attribute [local go_sem] cell?_gd frozen?_gd setCell_gd size_grow tape_grow cell?_grow' frozen?_grow' setCell_grow' grow_grow grow_dr grow_drew dr_dr dr_drew drew_dr dr_alloc dr_setCell dr_cell dr_frozen dr_tape dr_drawn
attribute [local irreducible] wpSteady
theorem byDep_any (a b:FV)(w:World):Calls Tryz.prog 97 #[a.val,b.val] w (Ret w (.int .i64 (ordD a b))):=by
 have hm:=hmix
 obtain⟨r,hr⟩:∃r,ordD a b=r:=⟨_,rfl⟩
 rw[hr]
 have hr2:(sg (a.dep-b.dep)≠0∧r=sg (a.dep-b.dep))∨(sg (a.dep-b.dep)=0∧r=sg (a.id-b.id)):=by
  rw[←hr]
  unfold ordD
  split
  ·exact .inr ⟨by assumption,rfl⟩
  ·exact .inl ⟨by assumption,rfl⟩
 clear hr
 have k1:=hide (fun W=>Compare_any a.dep b.dep W)
 have k2:=hide (fun W=>Compare_any a.id b.id W)
 generalize sg (a.dep-b.dep)=x at *
 generalize sg (a.id-b.id)=y at *
 have HR:=hide hr2
 clear hr2
 go_enter Tryz.func97,Tryz.ntmps97
 go_wp2_with fail
 refine wp_name ?_
 intro W0 hW
 have h1:W0.heap[w.heap.size]?=some (.cells a.cells.toArray 54 (0,0)):=by rw[←hW];exact (heap_alloc_old _ _ (by simp)).trans (heap_alloc_new _ _)
 have h2:W0.heap[w.heap.size+1]?=some (.cells b.cells.toArray 54 (0,0)):=by rw[←hW];exact heap_alloc_at _ _ _ (by simp)
 have HG0:Hid (Grew w W0):=hide (by rw[←hW];exact gw)
 clear hW
 have HKEEP:Hid (∀W',Grew W0 W'→(fun w'=>w'.cell? ⟨w.heap.size,6,none⟩=some (.int .i64 a.dep)∧w'.cell? ⟨w.heap.size+1,6,none⟩=some (.int .i64 b.dep)∧w'.cell? ⟨w.heap.size,0,none⟩=some (.int .i64 a.id)∧w'.cell? ⟨w.heap.size+1,0,none⟩=some (.int .i64 b.id)) W'):=hide (fun W' hg=>by
  have e1:=(hg.below.block _ (Go.Proofs.YtblgdlnmabkpoaaGreat.blk_lt h1)).trans h1
  have e2:=(hg.below.block _ (Go.Proofs.YtblgdlnmabkpoaaGreat.blk_lt h2)).trans h2
  exact⟨Go.Proofs.YtblgdlnmabkpoaaGreat.blk_cell e1 6,Go.Proofs.YtblgdlnmabkpoaaGreat.blk_cell e2 6,Go.Proofs.YtblgdlnmabkpoaaGreat.blk_cell e1 0,Go.Proofs.YtblgdlnmabkpoaaGreat.blk_cell e2 0⟩)
 clear h1 h2
 refine wp_region_held_drew (S:=(fun w'=>w'.cell? ⟨w.heap.size,6,none⟩=some (.int .i64 a.dep)∧w'.cell? ⟨w.heap.size+1,6,none⟩=some (.int .i64 b.dep)∧w'.cell? ⟨w.heap.size,0,none⟩=some (.int .i64 a.id)∧w'.cell? ⟨w.heap.size+1,0,none⟩=some (.int .i64 b.id))) hm ?_ (fun hHeld=>?_)
 ·exact HKEEP.out _ gw
 refine tk 0 ?_
 refine tk 1 ?_
 refine tk 2 ?_
 refine tk 3 ?_
 refine tk 5 ?_
 refine tk 6 ?_
 refine tk 7 ?_
 try simp only[Act.put,setA,getA]
 refine tk 8 ?_
 try simp only[Act.put,setA,getA]
 refine wpAnyH_ready (rs:=[4]) (by kernel_rfl) (by simp) ?_
 refine AllReadyH.cons (o:=_) rfl (fun K hK=>?_) AllReadyH.nil
 go_simp
 (first|(go_at_call 99;(first|with_reducible refine (k1.out _).mono ?_|with_reducible refine (k2.out _).mono ?_);rintro e w' ⟨rfl,⟨_,_⟩,rfl⟩;dsimp only)|(go_at_call 98;(refine (Or2_any x y r _ _ HR.out (by go_simp) (by go_simp) (by go_simp)).mono ?_);rintro e w' ⟨rfl,⟨_,_⟩,rfl⟩;dsimp only)|skip)
 refine hK.out _ _ ?_ (fun hHeld=>?_)
 ·exact HKEEP.out _ gw
 clear hK K
 try simp only[Act.put,setA,getA]
 refine wpAnyH_ready (rs:=[9]) (by kernel_rfl) (by simp) ?_
 refine AllReadyH.cons (o:=_) rfl (fun K hK=>?_) AllReadyH.nil
 go_simp
 (first|(go_at_call 99;(first|with_reducible refine (k1.out _).mono ?_|with_reducible refine (k2.out _).mono ?_);rintro e w' ⟨rfl,⟨_,_⟩,rfl⟩;dsimp only)|(go_at_call 98;(refine (Or2_any x y r _ _ HR.out (by go_simp) (by go_simp) (by go_simp)).mono ?_);rintro e w' ⟨rfl,⟨_,_⟩,rfl⟩;dsimp only)|skip)
 refine hK.out _ _ ?_ (fun hHeld=>?_)
 ·exact HKEEP.out _ gw
 clear hK K
 try simp only[Act.put,setA,getA]
 refine wpAnyH_ready (rs:=[10]) (by kernel_rfl) (by simp) ?_
 refine AllReadyH.cons (o:=_) rfl (fun K hK=>?_) AllReadyH.nil
 go_simp
 (first|(go_at_call 99;(first|with_reducible refine (k1.out _).mono ?_|with_reducible refine (k2.out _).mono ?_);rintro e w' ⟨rfl,⟨_,_⟩,rfl⟩;dsimp only)|(go_at_call 98;(refine (Or2_any x y r _ _ HR.out (by go_simp) (by go_simp) (by go_simp)).mono ?_);rintro e w' ⟨rfl,⟨_,_⟩,rfl⟩;dsimp only)|skip)
 refine hK.out _ _ ?_ (fun hHeld=>?_)
 ·exact HKEEP.out _ gw
 clear hK K
 try simp only[Act.put,setA,getA]
 refine wpAnyH_ready (rs:=[11]) (by kernel_rfl) (by simp) ?_
 refine AllReadyH.cons (o:=_) rfl (fun K hK=>?_) AllReadyH.nil
 go_simp
 (first|(go_at_call 99;(first|with_reducible refine (k1.out _).mono ?_|with_reducible refine (k2.out _).mono ?_);rintro e w' ⟨rfl,⟨_,_⟩,rfl⟩;dsimp only)|(go_at_call 98;(refine (Or2_any x y r _ _ HR.out (by go_simp) (by go_simp) (by go_simp)).mono ?_);rintro e w' ⟨rfl,⟨_,_⟩,rfl⟩;dsimp only)|skip)
 refine hK.out _ _ ?_ (fun hHeld=>?_)
 ·exact HKEEP.out _ gw
 clear hK K
 try simp only[Act.put,setA,getA]
 refine tk 12 ?_
 try simp only[Act.put,setA,getA]
 refine wpAnyH_done (by kernel_rfl) ?_ _
 go_wp2_with fail
 go_ret
 exact Ret.mk' rfl (HG0.out.trans gw)
theorem byId_any (a b:FV)(w:World):Calls Tryz.prog 104 #[a.val,b.val] w (Ret w (.int .i64 (ordI a b))):=by
 have hm:=hmix
 have k2:=hide (fun W=>Compare_any a.id b.id W)
 unfold ordI
 go_enter Tryz.func104,Tryz.ntmps104
 go_wp2_with (go_at_call 99;with_reducible refine crv (k2.out _) fun _ _=>?_;dsimp only)
 go_ret
 exact Ret.mk' rfl gw
end Go.Proofs.YtblgdlnmabkpoaaGreat.M
namespace Go.Proofs.YtblgdlnmabkpoaaGreat
open Go.RowKit Go.Sort Go.Lib Go.Shelf
def leD (u v:FV):Bool:=decide (ordD u v≤0)
def leI (u v:FV):Bool:=decide (ordI u v≤0)
theorem leD_iff (u v:FV):leD u v=true↔(u.dep<v.dep∨(u.dep=v.dep∧u.id≤v.id)):=by
 unfold leD ordD
 rw[decide_eq_true_eq]
 rcases sg_cases (u.dep-v.dep) with⟨h,e⟩|⟨h,e⟩|⟨h,e⟩<;>rcases sg_cases (u.id-v.id) with⟨k,f⟩|⟨k,f⟩|⟨k,f⟩<;>simp[e,f]<;>omega
theorem leI_iff (u v:FV):leI u v=true↔u.id≤v.id:=by
 unfold leI ordI
 rw[decide_eq_true_eq]
 rcases sg_cases (u.id-v.id) with⟨k,f⟩|⟨k,f⟩|⟨k,f⟩<;>simp[f]<;>omega
theorem ordD_swap (u v:FV):ordD v u=- ordD u v:=by
 unfold ordD
 rcases sg_cases (u.dep-v.dep) with⟨h,e⟩|⟨h,e⟩|⟨h,e⟩<;>rcases sg_cases (v.dep-u.dep) with⟨h',e'⟩|⟨h',e'⟩|⟨h',e'⟩<;>rcases sg_cases (u.id-v.id) with⟨k,f⟩|⟨k,f⟩|⟨k,f⟩<;>rcases sg_cases (v.id-u.id) with⟨k',f'⟩|⟨k',f'⟩|⟨k',f'⟩<;>simp[e,e',f,f']<;>omega
theorem ordI_swap (u v:FV):ordI v u=- ordI u v:=by
 unfold ordI
 rcases sg_cases (u.id-v.id) with⟨k,f⟩|⟨k,f⟩|⟨k,f⟩<;>rcases sg_cases (v.id-u.id) with⟨k',f'⟩|⟨k',f'⟩|⟨k',f'⟩<;>simp[f,f']<;>omega
theorem sortD_lt (u v:FV):ltOf ordD u v = !leD v u:=by
 rw[Bool.eq_iff_iff]
 simp[ltOf,leD,ordD_swap u v]
theorem sortI_lt (u v:FV):ltOf ordI u v = !leI v u:=by
 rw[Bool.eq_iff_iff]
 simp[ltOf,leI,ordI_swap u v]
theorem sortD_trans (u v w:FV)(h1:leD u v=true)(h2:leD v w=true):leD u w=true:=by
 rw[leD_iff] at *
 omega
theorem sortI_trans (u v w:FV)(h1:leI u v=true)(h2:leI v w=true):leI u w=true:=by
 rw[leI_iff] at *
 omega
theorem sortD_total (u v:FV):leD u v=true∨leD v u=true:=by
 rw[leD_iff,leD_iff]
 omega
theorem sortI_total (u v:FV):leI u v=true∨leI v u=true:=by
 rw[leI_iff,leI_iff]
 omega
theorem sortD_id (u v:FV)(h1:leD u v=true)(h2:leD v u=true):u.id=v.id:=by
 rw[leD_iff] at *
 omega
theorem sortI_id (u v:FV)(h1:leI u v=true)(h2:leI v u=true):u.id=v.id:=by
 rw[leI_iff] at *
 omega
theorem swo_of {cf:FV→FV→Int}{le:FV→FV→Bool}(hlt:∀u v,ltOf cf u v = !le v u)(ht:∀u v w,le u v=true→le v w=true→le u w=true)(htot:∀u v,le u v=true∨le v u=true):SWO (ltOf cf) where
 irrefl x:=by
  rw[hlt]
  rcases htot x x with h|h<;>simp[h]
 trans x y z h1 h2:=by
  rw[hlt] at *
  cases h:le z x
  ·rfl
  ·exfalso
   simp at h1 h2
   rcases htot x y with h3|h3
   ·have:=ht _ _ _ h h3
    rw[this] at h2;cases h2
   ·rw[h3] at h1;cases h1
 ntrans x y z h1 h2:=by
  rw[hlt] at *
  simp at *
  exact ht _ _ _ h2 h1
theorem id_inj:∀ {l:List FV},(l.map FV.id).Nodup→∀a,a∈l→∀b,b∈l→a.id=b.id→a=b
 | [],_,a,ha,_,_,_=>by cases ha
 | x::l,h,a,ha,b,hb,e=>by
  rw[List.map_cons,List.nodup_cons] at h
  rcases List.mem_cons.1 ha with ha1|ha1
  ·rcases List.mem_cons.1 hb with hb1|hb1
   ·rw[ha1,hb1]
   ·exact absurd (List.mem_map.2 ⟨b,hb1,by rw[←e,ha1]⟩) h.1
  ·rcases List.mem_cons.1 hb with hb1|hb1
   ·exact absurd (List.mem_map.2 ⟨a,ha1,by rw[e,hb1]⟩) h.1
   ·exact id_inj h.2 a ha1 b hb1 e
theorem sort_uniq {le:FV→FV→Bool}(hid:∀u v,le u v=true→le v u=true→u.id=v.id)(ht:∀u v w,le u v=true→le v w=true→le u w=true)(htot:∀u v,le u v=true∨le v u=true){l d:List FV}(hn:(l.map FV.id).Nodup)(hp:d.Perm l)(hs:d.Pairwise fun x y=>le x y=true):d=l.mergeSort le:=by
 refine List.Perm.eq_of_pairwise (le:=fun x y=>le x y=true) (fun a b ha hb h1 h2=>?_) hs ?_ (hp.trans (List.mergeSort_perm _ _).symm)
 ·exact id_inj hn a (hp.mem_iff.1 ha) b ((List.mergeSort_perm l le).mem_iff.1 hb) (hid a b h1 h2)
 ·refine List.pairwise_mergeSort (fun a b c=>ht a b c) (fun a b=>?_) _
  rcases htot a b with h|h<;>simp[h]
theorem sortWorldF_grownBy {α:Type}[Inhabited α](enc:α→List Value)(k:Nat)(w:World)(blk off n:Nat)(d:Array α)(os:Array Obj):w.grownBy (sortWorldK enc k w blk off n d os) (some blk):=by
 refine⟨rfl,rfl,rfl,size_sortWorldK_c enc k w blk off n d os,fun j hj hne=>?_⟩
 unfold sortWorldK
 rw[heap_grow_old _ _ (by rw[size_putRowK];exact hj)]
 simp only[putRowK,putRow,mapBlock,Array.getElem?_modify]
 rw[if_neg (fun e=>hne (by rw[e]))]
 rfl
theorem sortD_lays (blk off size:Nat)(w:World):CmpLays Tryz.prog 97 #[] FV.cells 9 ordD blk off size w :=
 fun m os dk _ x y=>(M.byDep_any x y _).mono fun e w' ⟨he,⟨p,hp⟩⟩=>⟨he,p.n,p.os,hp⟩
theorem sortD_any (blk off cap:Nat)(l:List FV)(w:World)(hH:HoldsK FV.cells 9 w blk off l.toArray)(hblk:blk<w.heap.size)(hsz:l.length<4611686018427387904)(hn:(l.map FV.id).Nodup) :
  Calls Tryz.prog 96 #[.slice (some ⟨blk,off,none⟩) l.length cap,.func (.func 97) #[] #[]] w fun e w'=>e=.returned (.tuple #[])∧w.grownBy w' (some blk)∧HoldsK FV.cells 9 w' blk off (l.mergeSort leD).toArray:=by
 have eg:∀args w,(callFunc 97 args).run Tryz.prog w=.ok (.enter 97 args) w:=enters_of Tryz.func97 (by kernel_rfl) rfl
 have hcon:=AnyQ.slices_SortFunc Tryz.sortFe 9 Tryz.isAgg54 Tryz.sizeOf54 FV.cells (fun _=>rfl) (fun x v hv=>by simp[FV.cells] at hv;rcases hv with rfl|rfl|rfl|rfl|rfl|rfl|rfl|rfl|rfl<;>rfl) ordD (swo_of sortD_lt sortD_trans sortD_total) 97 #[] blk off cap l.toArray w eg (sortD_lays blk off _ w) hH hblk (by simpa using hsz)
 change Calls Tryz.prog 96 _ _ _ at hcon
 refine hcon.mono ?_
 rintro e w' ⟨rfl,d',n,os,hp,hs,rfl⟩
 refine⟨rfl,sortWorldF_grownBy FV.cells 9 w blk off n d' os,?_⟩
 have hp3:d'.toList.Perm l:=by
  have h3:=hp.2.2
  have e1:d'.extract 0 l.toArray.size=d':=by rw[←hp.1];exact Array.extract_size
  rw[e1,Array.extract_size] at h3
  simpa using h3
 have hs3:d'.toList.Pairwise fun x y=>leD x y=true:=by
  rw[List.pairwise_iff_getElem]
  intro i j hi hj hij
  have hi':i<d'.size:=by simpa using hi
  have hj':j<d'.size:=by simpa using hj
  have h4:=hs i j (Nat.zero_le _) hij (by rw[←hp.1];exact hj')
  rw[getElem!_pos d' j hj',getElem!_pos d' i hi',sortD_lt] at h4
  simpa using h4
 have e3:d'=(l.mergeSort leD).toArray:=by
  have:=sort_uniq sortD_id sortD_trans sortD_total hn hp3 hs3
  rw[←this]
 rw[←e3]
 exact holdsK_sortWorldK_c FV.cells 9 w blk off l.toArray d' n os hH hblk hp.1
theorem sortI_lays (blk off size:Nat)(w:World):CmpLays Tryz.prog 104 #[] FV.cells 9 ordI blk off size w :=
 fun m os dk _ x y=>(M.byId_any x y _).mono fun e w' ⟨he,⟨p,hp⟩⟩=>⟨he,p.n,p.os,hp⟩
theorem sortI_any (blk off cap:Nat)(l:List FV)(w:World)(hH:HoldsK FV.cells 9 w blk off l.toArray)(hblk:blk<w.heap.size)(hsz:l.length<4611686018427387904)(hn:(l.map FV.id).Nodup) :
  Calls Tryz.prog 96 #[.slice (some ⟨blk,off,none⟩) l.length cap,.func (.func 104) #[] #[]] w fun e w'=>e=.returned (.tuple #[])∧w.grownBy w' (some blk)∧HoldsK FV.cells 9 w' blk off (l.mergeSort leI).toArray:=by
 have eg:∀args w,(callFunc 104 args).run Tryz.prog w=.ok (.enter 104 args) w:=enters_of Tryz.func104 (by kernel_rfl) rfl
 have hcon:=AnyQ.slices_SortFunc Tryz.sortFe 9 Tryz.isAgg54 Tryz.sizeOf54 FV.cells (fun _=>rfl) (fun x v hv=>by simp[FV.cells] at hv;rcases hv with rfl|rfl|rfl|rfl|rfl|rfl|rfl|rfl|rfl<;>rfl) ordI (swo_of sortI_lt sortI_trans sortI_total) 104 #[] blk off cap l.toArray w eg (sortI_lays blk off _ w) hH hblk (by simpa using hsz)
 change Calls Tryz.prog 96 _ _ _ at hcon
 refine hcon.mono ?_
 rintro e w' ⟨rfl,d',n,os,hp,hs,rfl⟩
 refine⟨rfl,sortWorldF_grownBy FV.cells 9 w blk off n d' os,?_⟩
 have hp3:d'.toList.Perm l:=by
  have h3:=hp.2.2
  have e1:d'.extract 0 l.toArray.size=d':=by rw[←hp.1];exact Array.extract_size
  rw[e1,Array.extract_size] at h3
  simpa using h3
 have hs3:d'.toList.Pairwise fun x y=>leI x y=true:=by
  rw[List.pairwise_iff_getElem]
  intro i j hi hj hij
  have hi':i<d'.size:=by simpa using hi
  have hj':j<d'.size:=by simpa using hj
  have h4:=hs i j (Nat.zero_le _) hij (by rw[←hp.1];exact hj')
  rw[getElem!_pos d' j hj',getElem!_pos d' i hi',sortI_lt] at h4
  simpa using h4
 have e3:d'=(l.mergeSort leI).toArray:=by
  have:=sort_uniq sortI_id sortI_trans sortI_total hn hp3 hs3
  rw[←this]
 rw[←e3]
 exact holdsK_sortWorldK_c FV.cells 9 w blk off l.toArray d' n os hH hblk hp.1
theorem ownF_holds {W:World}{base g cap:Nat}{L:List FV}(h:W.ownsRow base 54 9 (.slice (some ⟨g,0,none⟩) L.length cap) L.length (L.flatMap FV.cells)):HoldsK FV.cells 9 W g 0 L.toArray:=by
 intro t ht
 have ht':t<L.length*9:=by simpa using ht
 rw[get_flatK _ _ _ _ (by simpa using ht'),Nat.zero_add]
 refine⟨?_,h.frozenAt t⟩
 rw[h.cellAt t ht']
 have hk:t / 9<L.length:=by omega
 have:=(flatMap_get FV.cells 9 (fun _=>rfl) L (t / 9) (t%9) (FV.cells L[t / 9])[t%9]! (by omega)).2 ⟨L[t / 9],List.getElem?_eq_getElem hk,by
  have:t%9<(FV.cells L[t / 9]).length:=by show t%9<9;omega
  simp[this]⟩
 rw[show t / 9*9+t%9=t by omega] at this
 rw[this]
 simp[hk]
theorem holdsF_rd {W:World}{g:Nat}{L:List FV}(h:HoldsK FV.cells 9 W g 0 L.toArray)(hg:g<W.heap.size):Rd W W.heap.size 9 (some ⟨g,0,none⟩) (L.map FV.cells):=by
 refine .inr ⟨g,0,rfl,hg,fun k x hx j v hv=>?_⟩
 rw[List.getElem?_map] at hx
 cases hlk:L[k]? with
 | none=>rw[hlk] at hx;cases hx
 | some y =>
  rw[hlk] at hx
  injection hx with hx
  subst hx
  have hk:=(List.getElem?_eq_some_iff.1 hlk).1
  have hj:j<9:=(List.getElem?_eq_some_iff.1 hv).1
  have hc:=(h.cell (i:=k) (c:=j) (by simpa using hk) hj).1
  rw[hc]
  have e:L.toArray[k]! = y:=by
   rw[List.getElem?_eq_getElem hk] at hlk
   injection hlk with hlk
   simp[hk,hlk]
  rw[e,←hv,getElem!_pos y.cells j hj,List.getElem?_eq_getElem hj]
theorem sortD_all (base:Nat)(v:Value)(l:List FV)(w:World)(h:w.ownsRow base 54 9 v l.length (l.flatMap FV.cells))(hsz:l.length<4611686018427387904)(hn:(l.map FV.id).Nodup) :
  Calls Tryz.prog 96 #[v,.func (.func 97) #[] #[]] w fun e w'=>e=.returned (.tuple #[])∧w.grownBy w' v.ownBlock∧∃A c,v=.slice A l.length c∧Rd w' w'.heap.size 9 A ((l.mergeSort leD).map FV.cells):=by
 rcases h.2 with⟨rfl,h0⟩|⟨g,cap,cur,rfl,hb,hg,_⟩
 ·have hl:l=[]:=List.length_eq_zero_iff.1 h0
  subst hl
  refine (AnyF.slices_SortFunc_none Tryz.sortFe none 0 _ w).mono ?_
  rintro e w' ⟨rfl,rfl⟩
  exact⟨rfl,(Grew.refl w').grownBy _,none,0,rfl,by simp[Rd.nil]⟩
 ·have hlt:=blk_lt hg
  refine (sortD_any g 0 cap l w (ownF_holds h) hlt hsz hn).mono ?_
  rintro e w' ⟨rfl,hgb,hh⟩
  exact⟨rfl,hgb,_,_,rfl,holdsF_rd hh (Nat.lt_of_lt_of_le hlt hgb.size)⟩
theorem sortI_all (base:Nat)(v:Value)(l:List FV)(w:World)(h:w.ownsRow base 54 9 v l.length (l.flatMap FV.cells))(hsz:l.length<4611686018427387904)(hn:(l.map FV.id).Nodup) :
  Calls Tryz.prog 96 #[v,.func (.func 104) #[] #[]] w fun e w'=>e=.returned (.tuple #[])∧w.grownBy w' v.ownBlock∧∃A c,v=.slice A l.length c∧Rd w' w'.heap.size 9 A ((l.mergeSort leI).map FV.cells):=by
 rcases h.2 with⟨rfl,h0⟩|⟨g,cap,cur,rfl,hb,hg,_⟩
 ·have hl:l=[]:=List.length_eq_zero_iff.1 h0
  subst hl
  refine (AnyF.slices_SortFunc_none Tryz.sortFe none 0 _ w).mono ?_
  rintro e w' ⟨rfl,rfl⟩
  exact⟨rfl,(Grew.refl w').grownBy _,none,0,rfl,by simp[Rd.nil]⟩
 ·have hlt:=blk_lt hg
  refine (sortI_any g 0 cap l w (ownF_holds h) hlt hsz hn).mono ?_
  rintro e w' ⟨rfl,hgb,hh⟩
  exact⟨rfl,hgb,_,_,rfl,holdsF_rd hh (Nat.lt_of_lt_of_le hlt hgb.size)⟩
theorem rad_flat (x:Int):∀ (l:List FV) (i:Nat),i<l.length→(l.flatMap FV.cells).set (i*9+4) (.int .i64 x)=(l.set i { fAt l i with rad:=x }).flatMap FV.cells
 | [],i,h=>by simp at h
 | a::l,0,_=>by simp[FV.cells,fAt]
 | a::l,i+1,h=>by
  have ih:=rad_flat x l i (by simpa using h)
  have e:fAt (a::l) (i+1)=fAt l i:=by unfold fAt;rw[List.getD_cons_succ]
  rw[e,List.set_cons_succ,List.flatMap_cons,List.flatMap_cons,←ih]
  rw[show (i+1)*9+4=(i*9+4)+1+1+1+1+1+1+1+1+1 by omega]
  simp[FV.cells]
theorem rad_own {w:World}{base g n cap i:Nat}{fs:List FV}(h:w.ownsRow base 54 9 (.slice (some ⟨g,0,none⟩) n cap) n (fs.flatMap FV.cells))(hi:i<fs.length)(x:Int):(w.setCell ⟨g,i*9+4,none⟩ (.int .i64 x)).ownsRow base 54 9 (.slice (some ⟨g,0,none⟩) n cap) n ((fs.set i { fAt fs i with rad:=x }).flatMap FV.cells):=by
 rw[←rad_flat x fs i hi]
 exact (h.stored _ _).1
theorem dep_flat (x:Int):∀ (l:List FV) (i:Nat),i<l.length→(l.flatMap FV.cells).set (i*9+6) (.int .i64 x)=(l.set i { fAt l i with dep:=x }).flatMap FV.cells
 | [],i,h=>by simp at h
 | a::l,0,_=>by simp[FV.cells,fAt]
 | a::l,i+1,h=>by
  have ih:=dep_flat x l i (by simpa using h)
  have e:fAt (a::l) (i+1)=fAt l i:=by unfold fAt;rw[List.getD_cons_succ]
  rw[e,List.set_cons_succ,List.flatMap_cons,List.flatMap_cons,←ih]
  rw[show (i+1)*9+6=(i*9+6)+1+1+1+1+1+1+1+1+1 by omega]
  simp[FV.cells]
theorem dep_own {w:World}{base g n cap i:Nat}{fs:List FV}(h:w.ownsRow base 54 9 (.slice (some ⟨g,0,none⟩) n cap) n (fs.flatMap FV.cells))(hi:i<fs.length)(x:Int):(w.setCell ⟨g,i*9+6,none⟩ (.int .i64 x)).ownsRow base 54 9 (.slice (some ⟨g,0,none⟩) n cap) n ((fs.set i { fAt fs i with dep:=x }).flatMap FV.cells):=by
 rw[←dep_flat x fs i hi]
 exact (h.stored _ _).1
theorem set_fAt {fs:List FV}{k:Nat}(h:k<fs.length):fs.set k (fAt fs k)=fs:=by
 apply List.ext_getElem?
 intro i
 by_cases hi:i=k
 ·subst hi
  rw[List.getElem?_set_self h,fAt_get h]
 ·rw[List.getElem?_set_ne (fun e=>hi e.symm)]
theorem gset {W W':World}{b o:Nat}{v:Value}(h:Grew W W')(hb:W.heap.size≤b):Grew W (W'.setCell ⟨b,o,none⟩ v):=Grew.of_below (h.below.setCell (p:=⟨b,o,none⟩) hb v)
theorem ggrown {W X X':World}{base:Nat}{e:TypeId}{size:Nat}{v:Value}{n:Nat}{xs:List Value}(h:Grew W X)(hown:X.ownsRow base e size v n xs)(hb:W.heap.size≤base)(hg:X.grownBy X' v.ownBlock):Grew W X' :=
 Grew.of_below (h.below.grown hg h.below.size fun q hq=>Nat.le_trans hb (hown.lt q hq).1)
theorem own_mono {w:World}{base base':Nat}{e:TypeId}{size:Nat}{v:Value}{n:Nat}{xs:List Value}(h:w.ownsRow base e size v n xs)(hb:base'≤base):w.ownsRow base' e size v n xs :=
 ⟨h.1,h.2.imp id fun ⟨g,cap,cur,h1,h2,h3⟩=>⟨g,cap,cur,h1,Nat.le_trans hb h2,h3⟩⟩
theorem FAt.up {W W':World}{b o:Nat}{f:FV}(h:FAt W b o f)(hg:Grew W W')(hb:b<W.heap.size):FAt W' b o f:=by
 have c:=old_cell hg
 exact⟨(c _ _ hb).trans h.c0,(c _ _ hb).trans h.c1,(c _ _ hb).trans h.c2,(c _ _ hb).trans h.c3,(c _ _ hb).trans h.c4,(c _ _ hb).trans h.c5,(c _ _ hb).trans h.c6,(c _ _ hb).trans h.c7,(c _ _ hb).trans h.c8⟩
theorem FAt.new (w:World)(f:FV):FAt (w.alloc (.cells #[.int .i64 f.id,.int .i64 f.kind,.int .i64 f.x,.int .i64 f.y,.int .i64 f.rad,.slice f.aA f.area.length f.ac,.int .i64 f.dep,.int .i64 f.sym,.slice f.sA f.secs.length f.sc] 54)) w.heap.size 0 f :=
 ⟨blk_cell (heap_alloc_new _ _) 0,blk_cell (heap_alloc_new _ _) 1,blk_cell (heap_alloc_new _ _) 2,blk_cell (heap_alloc_new _ _) 3,blk_cell (heap_alloc_new _ _) 4,blk_cell (heap_alloc_new _ _) 5,blk_cell (heap_alloc_new _ _) 6,blk_cell (heap_alloc_new _ _) 7,blk_cell (heap_alloc_new _ _) 8⟩
theorem Rd.blkF {W:World}{b:Nat}{cs:Array Value}{T:TypeId}(fs:List FV)(h:W.heap[b]?=some (.cells cs T (0,0)))(hc:cs.toList=fs.flatMap FV.cells):Rd W W.heap.size 9 (some ⟨b,0,none⟩) (fs.map FV.cells):=by
 refine .inr ⟨b,0,rfl,blk_lt h,fun k x hx j v hv=>?_⟩
 rw[List.getElem?_map] at hx
 cases hlk:fs[k]? with
 | none=>rw[hlk] at hx;cases hx
 | some y =>
  rw[hlk] at hx
  injection hx with hx
  subst hx
  have hj:j<9:=(List.getElem?_eq_some_iff.1 hv).1
  have:=(flatMap_get FV.cells 9 fv_len fs k j v hj).2 ⟨y,hlk,hv⟩
  rw[←hc] at this
  rw[cell_of_row W b _ cs T (0,0) h,Nat.zero_add]
  simpa using this
theorem Rd.lit1 (w:World)(f:FV)(b:Nat)(hb:b=w.heap.size):Rd (w.alloc (.cells #[.int .i64 f.id,.int .i64 f.kind,.int .i64 f.x,.int .i64 f.y,.int .i64 f.rad,.slice f.aA f.area.length f.ac,.int .i64 f.dep,.int .i64 f.sym,.slice f.sA f.secs.length f.sc] 54)) (w.heap.size+1) 9 (some ⟨b,0,none⟩) ([f].map FV.cells):=by
 have:=Rd.blkF (W:=w.alloc (.cells #[.int .i64 f.id,.int .i64 f.kind,.int .i64 f.x,.int .i64 f.y,.int .i64 f.rad,.slice f.aA f.area.length f.ac,.int .i64 f.dep,.int .i64 f.sym,.slice f.sA f.secs.length f.sc] 54)) [f] (heap_alloc_at _ _ b hb) rfl
 rwa [World.size_alloc'] at this
end Go.Proofs.YtblgdlnmabkpoaaGreat
