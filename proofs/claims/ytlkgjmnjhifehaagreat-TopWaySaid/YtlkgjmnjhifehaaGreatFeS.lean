/- The shelf's contracts of slices.SortFunc, laid at this program's numbers. The two orders of features that a thinning sorts by, with draws that only become more. slices.SortFunc of. -/
import Derived.Shelf.SlSortCmp.WholeK
import Derived.Ground.SlsfProg
import Derived.Test.YtlkgjmnjhifehaaGreatProg
import Derived.Test.YtlkgjmnjhifehaaGreatKitN
import Derived.Test.YtlkgjmnjhifehaaGreatFeE
import Derived.Sort.LotA
import Derived.Shelf.SlSortCmp.NoneTotal
set_option linter.unusedSimpArgs false
set_option linter.unusedVariables false
set_option maxHeartbeats 1600000
namespace Go.Proofs
open Go.Shelf
def Tryz.sortFe_ren:Go.Shelf.Ren:=⟨fun|6=>119|15=>141|14=>140|28=>165|29=>166|20=>157|21=>158|22=>159|23=>160|24=>161|25=>162|26=>163|27=>164|46=>178|47=>179|48=>180|49=>181|50=>182|57=>184|n=>n,fun|22=>23|24=>65|25=>187|3=>3|39=>157|0=>0|53=>192|55=>195|4=>4|46=>230|45=>229|50=>75|5=>5|9=>9|66=>246|70=>250|76=>253|77=>198|n=>n,fun|n=>n⟩
theorem Tryz.sortFe:Go.Proofs.SlLaysF0.n6 Tryz.prog Tryz.sortFe_ren:={
 mixed:=by kernel_rfl
 f6:=⟨Tryz.f119.name,by decide,Tryz.func119.trans (congrArg some (by kernel_rfl))⟩
 f14:=⟨Tryz.f140.name,by decide,Tryz.func140.trans (congrArg some (by kernel_rfl))⟩
 f15:=Tryz.func141.trans (congrArg some (by kernel_rfl))
 f20:=⟨Tryz.f157.name,by decide,Tryz.func157.trans (congrArg some (by kernel_rfl))⟩
 f21:=⟨Tryz.f158.name,by decide,Tryz.func158.trans (congrArg some (by kernel_rfl))⟩
 f22:=⟨Tryz.f159.name,by decide,Tryz.func159.trans (congrArg some (by kernel_rfl))⟩
 f23:=⟨Tryz.f160.name,by decide,Tryz.func160.trans (congrArg some (by kernel_rfl))⟩
 f24:=⟨Tryz.f161.name,by decide,Tryz.func161.trans (congrArg some (by kernel_rfl))⟩
 f25:=⟨Tryz.f162.name,by decide,Tryz.func162.trans (congrArg some (by kernel_rfl))⟩
 f26:=⟨Tryz.f163.name,by decide,Tryz.func163.trans (congrArg some (by kernel_rfl))⟩
 f27:=⟨Tryz.f164.name,by decide,Tryz.func164.trans (congrArg some (by kernel_rfl))⟩
 f28:=Tryz.func165.trans (congrArg some (by kernel_rfl))
 f29:=Tryz.func166.trans (congrArg some (by kernel_rfl))
 f46:=⟨Tryz.f178.name,by decide,Tryz.func178.trans (congrArg some (by kernel_rfl))⟩
 f47:=Tryz.func179.trans (congrArg some (by kernel_rfl))
 f48:=Tryz.func180.trans (congrArg some (by kernel_rfl))
 f49:=⟨Tryz.f181.name,by decide,Tryz.func181.trans (congrArg some (by kernel_rfl))⟩
 f50:=⟨Tryz.f182.name,by decide,Tryz.func182.trans (congrArg some (by kernel_rfl))⟩
 f57:=⟨Tryz.f184.name,by decide,Tryz.func184.trans (congrArg some (by kernel_rfl))⟩
 t0:=Tryz.underlying0
 a0:=Tryz.isAgg0
 z0:=Tryz.sizeOf0
 v0:=Tryz.zeroValue0
 t3:=Tryz.underlying3
 a3:=Tryz.isAgg3
 z3:=Tryz.sizeOf3
 v3:=Tryz.zeroValue3
 t4:=Tryz.underlying4
 a4:=Tryz.isAgg4
 z4:=Tryz.sizeOf4
 v4:=Tryz.zeroValue4
 t5:=Tryz.underlying5
 a5:=Tryz.isAgg5
 z5:=Tryz.sizeOf5
 v5:=Tryz.zeroValue5
 t9:=Tryz.underlying9
 a9:=Tryz.isAgg9
 z9:=Tryz.sizeOf9
 v9:=Tryz.zeroValue9
 t22:=Tryz.underlying23
 a22:=Tryz.isAgg23
 z22:=Tryz.sizeOf23
 v22:=Tryz.zeroValue23
 t25:=Tryz.underlying187
 a25:=Tryz.isAgg187
 z25:=Tryz.sizeOf187
 v25:=Tryz.zeroValue187
 t39:=Tryz.underlying157
 a39:=Tryz.isAgg157
 z39:=Tryz.sizeOf157
 v39:=Tryz.zeroValue157
 t45:=Tryz.underlying229
 a45:=Tryz.isAgg229
 z45:=Tryz.sizeOf229
 v45:=Tryz.zeroValue229
 t46:=Tryz.underlying230
 a46:=Tryz.isAgg230
 z46:=Tryz.sizeOf230
 v46:=Tryz.zeroValue230
 t50:=Tryz.underlying75
 a50:=Tryz.isAgg75
 z50:=Tryz.sizeOf75
 v50:=Tryz.zeroValue75
 t53:=Tryz.underlying192
 a53:=Tryz.isAgg192
 z53:=Tryz.sizeOf192
 v53:=Tryz.zeroValue192
 t55:=Tryz.underlying195
 a55:=Tryz.isAgg195
 z55:=Tryz.sizeOf195
 v55:=Tryz.zeroValue195
 t66:=Tryz.underlying246
 a66:=Tryz.isAgg246
 z66:=Tryz.sizeOf246
 v66:=Tryz.zeroValue246
 t70:=Tryz.underlying250
 a70:=Tryz.isAgg250
 z70:=Tryz.sizeOf250
 v70:=Tryz.zeroValue250
 t76:=Tryz.underlying253
 a76:=Tryz.isAgg253
 z76:=Tryz.sizeOf253
 v76:=Tryz.zeroValue253
 t77:=Tryz.underlying198
 a77:=Tryz.isAgg198
 z77:=Tryz.sizeOf198
 v77:=Tryz.zeroValue198
}
end Go.Proofs
namespace Go.Proofs.YtlkgjmnjhifehaaGreat
def Eb (u v:FV):Int:=if sg (u.dep-v.dep)=0 then sg (u.id-v.id) else sg (u.dep-v.dep)
def FK (u v:FV):Int:=sg (u.id-v.id)
end Go.Proofs.YtlkgjmnjhifehaaGreat
namespace Go.Proofs.YtlkgjmnjhifehaaGreat.M
open Go.RowKit Go.Sort
attribute [local go_sem] dA steadyUpon
attribute [local go_sem ↓] bU bI aX aW aV aU aT
attribute [local go_sem] bH aK aJ size_grow tape_grow cell?_grow' aF aB grow_grow bW aY dR cO bY bK aN cZ aZ bZ bJ
attribute [local irreducible] wpSteady
theorem TE (a b:FV)(w:World):Calls Tryz.prog 120 #[a.val,b.val] w (aC w (.int .i64 (Eb a b))):=by
 have hm:=aP
 obtain⟨r,hr⟩:∃r,Eb a b=r:=⟨_,rfl⟩
 rw[hr]
 have hr2:(sg (a.dep-b.dep)≠0/\r=sg (a.dep-b.dep))\/(sg (a.dep-b.dep)=0/\r=sg (a.id-b.id)):=by
  rw[<-hr]
  unfold Eb
  split
  ·exact .inr ⟨by assumption,rfl⟩
  ·exact .inl ⟨by assumption,rfl⟩
 clear hr
 have k1:=hide (fun W=>ik a.dep b.dep W)
 have k2:=hide (fun W=>ik a.id b.id W)
 generalize sg (a.dep-b.dep)=x at *
 generalize sg (a.id-b.id)=y at *
 have HR:=hide hr2
 clear hr2
 go_enter Tryz.func120,Tryz.ntmps120
 go_wp2_with fail
 refine fC ?_
 intro W0 hW
 have h1:W0.heap[w.heap.size]?=some (.cells a.cells.toArray 65 (0,0)):=by rw[<-hW];exact (heap_alloc_old _ _ (by simp)).trans (heap_alloc_new _ _)
 have h2:W0.heap[w.heap.size+1]?=some (.cells b.cells.toArray 65 (0,0)):=by rw[<-hW];exact az _ _ _ (by simp)
 have lN:Hid (Grew w W0):=hide (by rw[<-hW];exact gw)
 clear hW
 have ML:Hid (∀W',Grew W0 W'->(fun w'=>w'.cell? ⟨w.heap.size,6,none⟩=some (.int .i64 a.dep)/\w'.cell? ⟨w.heap.size+1,6,none⟩=some (.int .i64 b.dep)/\w'.cell? ⟨w.heap.size,0,none⟩=some (.int .i64 a.id)/\w'.cell? ⟨w.heap.size+1,0,none⟩=some (.int .i64 b.id)) W'):=hide (fun W' hg=>by
  have e1:=(hg.below.block _ (Go.Proofs.YtlkgjmnjhifehaaGreat.au h1)).trans h1
  have e2:=(hg.below.block _ (Go.Proofs.YtlkgjmnjhifehaaGreat.au h2)).trans h2
  exact⟨Go.Proofs.YtlkgjmnjhifehaaGreat.ag e1 6,Go.Proofs.YtlkgjmnjhifehaaGreat.ag e2 6,Go.Proofs.YtlkgjmnjhifehaaGreat.ag e1 0,Go.Proofs.YtlkgjmnjhifehaaGreat.ag e2 0⟩)
 clear h1 h2
 refine wp_region_held_drew (S:=(fun w'=>w'.cell? ⟨w.heap.size,6,none⟩=some (.int .i64 a.dep)/\w'.cell? ⟨w.heap.size+1,6,none⟩=some (.int .i64 b.dep)/\w'.cell? ⟨w.heap.size,0,none⟩=some (.int .i64 a.id)/\w'.cell? ⟨w.heap.size+1,0,none⟩=some (.int .i64 b.id))) hm ?_ (fun hHeld=>?_)
 ·exact ML.out _ gw
 refine tk 0 ?_
 refine tk 1 ?_
 refine tk 2 ?_
 refine tk 3 ?_
 refine tk 5 ?_
 refine tk 6 ?_
 refine tk 7 ?_
 try simp only[Act.put,aG,bT]
 refine tk 8 ?_
 try simp only[Act.put,aG,bT]
 refine wpAnyH_ready (rs:=[4]) (by kernel_rfl) (by simp) ?_
 refine AllReadyH.cons (o:=_) rfl (fun K hK=>?_) AllReadyH.nil
 go_simp
 (first|(go_at_call 65;(first|with_reducible refine (k1.out _).mono ?_|with_reducible refine (k2.out _).mono ?_);rintro e w' ⟨rfl,⟨_,_⟩,rfl⟩;dsimp only)|(go_at_call 91;(refine (uU x y r _ _ HR.out (by go_simp) (by go_simp) (by go_simp)).mono ?_);rintro e w' ⟨rfl,⟨_,_⟩,rfl⟩;dsimp only)|skip)
 refine hK.out _ _ ?_ (fun hHeld=>?_)
 ·exact ML.out _ gw
 clear hK K
 try simp only[Act.put,aG,bT]
 refine wpAnyH_ready (rs:=[9]) (by kernel_rfl) (by simp) ?_
 refine AllReadyH.cons (o:=_) rfl (fun K hK=>?_) AllReadyH.nil
 go_simp
 (first|(go_at_call 65;(first|with_reducible refine (k1.out _).mono ?_|with_reducible refine (k2.out _).mono ?_);rintro e w' ⟨rfl,⟨_,_⟩,rfl⟩;dsimp only)|(go_at_call 91;(refine (uU x y r _ _ HR.out (by go_simp) (by go_simp) (by go_simp)).mono ?_);rintro e w' ⟨rfl,⟨_,_⟩,rfl⟩;dsimp only)|skip)
 refine hK.out _ _ ?_ (fun hHeld=>?_)
 ·exact ML.out _ gw
 clear hK K
 try simp only[Act.put,aG,bT]
 refine wpAnyH_ready (rs:=[10]) (by kernel_rfl) (by simp) ?_
 refine AllReadyH.cons (o:=_) rfl (fun K hK=>?_) AllReadyH.nil
 go_simp
 (first|(go_at_call 65;(first|with_reducible refine (k1.out _).mono ?_|with_reducible refine (k2.out _).mono ?_);rintro e w' ⟨rfl,⟨_,_⟩,rfl⟩;dsimp only)|(go_at_call 91;(refine (uU x y r _ _ HR.out (by go_simp) (by go_simp) (by go_simp)).mono ?_);rintro e w' ⟨rfl,⟨_,_⟩,rfl⟩;dsimp only)|skip)
 refine hK.out _ _ ?_ (fun hHeld=>?_)
 ·exact ML.out _ gw
 clear hK K
 try simp only[Act.put,aG,bT]
 refine wpAnyH_ready (rs:=[11]) (by kernel_rfl) (by simp) ?_
 refine AllReadyH.cons (o:=_) rfl (fun K hK=>?_) AllReadyH.nil
 go_simp
 (first|(go_at_call 65;(first|with_reducible refine (k1.out _).mono ?_|with_reducible refine (k2.out _).mono ?_);rintro e w' ⟨rfl,⟨_,_⟩,rfl⟩;dsimp only)|(go_at_call 91;(refine (uU x y r _ _ HR.out (by go_simp) (by go_simp) (by go_simp)).mono ?_);rintro e w' ⟨rfl,⟨_,_⟩,rfl⟩;dsimp only)|skip)
 refine hK.out _ _ ?_ (fun hHeld=>?_)
 ·exact ML.out _ gw
 clear hK K
 try simp only[Act.put,aG,bT]
 refine tk 12 ?_
 try simp only[Act.put,aG,bT]
 refine wpAnyH_done (by kernel_rfl) ?_ _
 go_wp2_with fail
 go_ret
 exact aC.mk' rfl (lN.out.trans gw)
theorem XE (a b:FV)(w:World):Calls Tryz.prog 125 #[a.val,b.val] w (aC w (.int .i64 (FK a b))):=by
 have hm:=aP
 have k2:=hide (fun W=>ik a.id b.id W)
 unfold FK
 go_enter Tryz.func125,Tryz.ntmps125
 go_wp2_with (go_at_call 65;with_reducible refine aQ (k2.out _) fun _ _=>?_;dsimp only)
 go_ret
 exact aC.mk' rfl gw
end Go.Proofs.YtlkgjmnjhifehaaGreat.M
namespace Go.Proofs.YtlkgjmnjhifehaaGreat
open Go.RowKit Go.Sort Go.Lib Go.Shelf
def GM (u v:FV):Bool:=decide (Eb u v<=0)
def leI (u v:FV):Bool:=decide (FK u v<=0)
theorem zt (u v:FV):GM u v=true↔(u.dep<v.dep\/(u.dep=v.dep/\u.id<=v.id)):=by
 unfold GM Eb
 rw[decide_eq_true_eq]
 rcases dN (u.dep-v.dep) with⟨h,e⟩|⟨h,e⟩|⟨h,e⟩<;>rcases dN (u.id-v.id) with⟨k,f⟩|⟨k,f⟩|⟨k,f⟩<;>simp[e,f]<;>omega
theorem Dk (u v:FV):leI u v=true↔u.id<=v.id:=by
 unfold leI FK
 rw[decide_eq_true_eq]
 rcases dN (u.id-v.id) with⟨k,f⟩|⟨k,f⟩|⟨k,f⟩<;>simp[f]<;>omega
theorem RF (u v:FV):Eb v u=- Eb u v:=by
 unfold Eb
 rcases dN (u.dep-v.dep) with⟨h,e⟩|⟨h,e⟩|⟨h,e⟩<;>rcases dN (v.dep-u.dep) with⟨h',e'⟩|⟨h',e'⟩|⟨h',e'⟩<;>rcases dN (u.id-v.id) with⟨k,f⟩|⟨k,f⟩|⟨k,f⟩<;>rcases dN (v.id-u.id) with⟨k',f'⟩|⟨k',f'⟩|⟨k',f'⟩<;>simp[e,e',f,f']<;>omega
theorem RD (u v:FV):FK v u=- FK u v:=by
 unfold FK
 rcases dN (u.id-v.id) with⟨k,f⟩|⟨k,f⟩|⟨k,f⟩<;>rcases dN (v.id-u.id) with⟨k',f'⟩|⟨k',f'⟩|⟨k',f'⟩<;>simp[f,f']<;>omega
theorem JS (u v:FV):ltOf Eb u v = !GM v u:=by
 rw[Bool.eq_iff_iff]
 simp[ltOf,GM,RF u v]
theorem JQ (u v:FV):ltOf FK u v = !leI v u:=by
 rw[Bool.eq_iff_iff]
 simp[ltOf,leI,RD u v]
theorem qN (u v w:FV)(h1:GM u v=true)(h2:GM v w=true):GM u w=true:=by
 rw[zt] at *
 omega
theorem vK (u v w:FV)(h1:leI u v=true)(h2:leI v w=true):leI u w=true:=by
 rw[Dk] at *
 omega
theorem qO (u v:FV):GM u v=true\/GM v u=true:=by
 rw[zt,zt]
 omega
theorem vM (u v:FV):leI u v=true\/leI v u=true:=by
 rw[Dk,Dk]
 omega
theorem JU (u v:FV)(h1:GM u v=true)(h2:GM v u=true):u.id=v.id:=by
 rw[zt] at *
 omega
theorem JR (u v:FV)(h1:leI u v=true)(h2:leI v u=true):u.id=v.id:=by
 rw[Dk] at *
 omega
theorem UM {cf:FV->FV->Int}{le:FV->FV->Bool}(hlt:∀u v,ltOf cf u v = !le v u)(ht:∀u v w,le u v=true->le v w=true->le u w=true)(htot:∀u v,le u v=true\/le v u=true):SWO (ltOf cf) where
 irrefl x:=by
  rw[hlt]
  rcases htot x x with h|h<;>simp[h]
 trans x y z h1 h2:=by
  rw[hlt] at *
  cases h:le z x
  ·rfl
  ·exfalso
   simp at h1 h2
   rcases htot x y with h3|h3
   ·have:=ht _ _ _ h h3
    rw[this] at h2;cases h2
   ·rw[h3] at h1;cases h1
 ntrans x y z h1 h2:=by
  rw[hlt] at *
  simp at *
  exact ht _ _ _ h2 h1
theorem Wy:∀ {l:List FV},(l.map FV.id).Nodup->∀a,a∈l->∀b,b∈l->a.id=b.id->a=b
 | [],_,a,ha,_,_,_=>by cases ha
 | x::l,h,a,ha,b,hb,e=>by
  rw[List.map_cons,List.nodup_cons] at h
  rcases List.mem_cons.1 ha with ha1|ha1
  ·rcases List.mem_cons.1 hb with hb1|hb1
   ·rw[ha1,hb1]
   ·exact absurd (List.mem_map.2 ⟨b,hb1,by rw[<-e,ha1]⟩) h.1
  ·rcases List.mem_cons.1 hb with hb1|hb1
   ·exact absurd (List.mem_map.2 ⟨a,ha1,by rw[e,hb1]⟩) h.1
   ·exact Wy h.2 a ha1 b hb1 e
theorem xg {le:FV->FV->Bool}(hid:∀u v,le u v=true->le v u=true->u.id=v.id)(ht:∀u v w,le u v=true->le v w=true->le u w=true)(htot:∀u v,le u v=true\/le v u=true){l d:List FV}(hn:(l.map FV.id).Nodup)(hp:d.Perm l)(hs:d.Pairwise fun x y=>le x y=true):d=l.mergeSort le:=by
 refine List.Perm.eq_of_pairwise (le:=fun x y=>le x y=true) (fun a b ha hb h1 h2=>?_) hs ?_ (hp.trans (List.mergeSort_perm _ _).symm)
 ·exact Wy hn a (hp.mem_iff.1 ha) b ((List.mergeSort_perm l le).mem_iff.1 hb) (hid a b h1 h2)
 ·refine List.pairwise_mergeSort (fun a b c=>ht a b c) (fun a b=>?_) _
  rcases htot a b with h|h<;>simp[h]
theorem pY {α:Type}[Inhabited α](enc:α->List Value)(k:Nat)(w:World)(blk off n:Nat)(d:Array α)(os:Array Obj):w.grownBy (sortWorldK enc k w blk off n d os) (some blk):=by
 refine⟨rfl,rfl,rfl,size_sortWorldK_c enc k w blk off n d os,fun j hj hne=>?_⟩
 unfold sortWorldK
 rw[heap_grow_old _ _ (by rw[size_putRowK];exact hj)]
 simp only[putRowK,putRow,mapBlock,Array.getElem?_modify]
 rw[if_neg (fun e=>hne (by rw[e]))]
 rfl
theorem Nj (blk off size:Nat)(w:World):CmpLays Tryz.prog 120 #[] FV.cells 9 Eb blk off size w :=
 fun m os dk _ x y=>(M.TE x y _).mono fun e w' ⟨he,⟨p,hp⟩⟩=>⟨he,p.n,p.os,hp⟩
theorem Q5 (blk off cap:Nat)(l:List FV)(w:World)(hH:HoldsK FV.cells 9 w blk off l.toArray)(hblk:blk<w.heap.size)(hsz:l.length<4611686018427387904)(hn:(l.map FV.id).Nodup) :
  Calls Tryz.prog 119 #[.slice (some ⟨blk,off,none⟩) l.length cap,.func (.func 120) #[] #[]] w fun e w'=>e=.returned (.tuple #[])/\w.grownBy w' (some blk)/\HoldsK FV.cells 9 w' blk off (l.mergeSort GM).toArray:=by
 have eg:∀args w,(callFunc 120 args).run Tryz.prog w=.ok (.enter 120 args) w:=enters_of Tryz.func120 (by kernel_rfl) rfl
 have hcon:=AnyQ.slices_SortFunc Tryz.sortFe 9 Tryz.isAgg65 Tryz.sizeOf65 FV.cells (fun _=>rfl) (fun x v hv=>by simp[FV.cells] at hv;rcases hv with rfl|rfl|rfl|rfl|rfl|rfl|rfl|rfl|rfl<;>rfl) Eb (UM JS qN qO) 120 #[] blk off cap l.toArray w eg (Nj blk off _ w) hH hblk (by simpa using hsz)
 change Calls Tryz.prog 119 _ _ _ at hcon
 refine hcon.mono ?_
 rintro e w' ⟨rfl,d',n,os,hp,hs,rfl⟩
 refine⟨rfl,pY FV.cells 9 w blk off n d' os,?_⟩
 have hp3:d'.toList.Perm l:=by
  have h3:=hp.2.2
  have e1:d'.extract 0 l.toArray.size=d':=by rw[<-hp.1];exact Array.extract_size
  rw[e1,Array.extract_size] at h3
  simpa using h3
 have hs3:d'.toList.Pairwise fun x y=>GM x y=true:=by
  rw[List.pairwise_iff_getElem]
  intro i j hi hj hij
  have hi':i<d'.size:=by simpa using hi
  have hj':j<d'.size:=by simpa using hj
  have h4:=hs i j (Nat.zero_le _) hij (by rw[<-hp.1];exact hj')
  rw[getElem!_pos d' j hj',getElem!_pos d' i hi',JS] at h4
  simpa using h4
 have e3:d'=(l.mergeSort GM).toArray:=by
  have:=xg JU qN qO hn hp3 hs3
  rw[<-this]
 rw[<-e3]
 exact holdsK_sortWorldK_c FV.cells 9 w blk off l.toArray d' n os hH hblk hp.1
theorem Nh (blk off size:Nat)(w:World):CmpLays Tryz.prog 125 #[] FV.cells 9 FK blk off size w :=
 fun m os dk _ x y=>(M.XE x y _).mono fun e w' ⟨he,⟨p,hp⟩⟩=>⟨he,p.n,p.os,hp⟩
theorem Q3 (blk off cap:Nat)(l:List FV)(w:World)(hH:HoldsK FV.cells 9 w blk off l.toArray)(hblk:blk<w.heap.size)(hsz:l.length<4611686018427387904)(hn:(l.map FV.id).Nodup) :
  Calls Tryz.prog 119 #[.slice (some ⟨blk,off,none⟩) l.length cap,.func (.func 125) #[] #[]] w fun e w'=>e=.returned (.tuple #[])/\w.grownBy w' (some blk)/\HoldsK FV.cells 9 w' blk off (l.mergeSort leI).toArray:=by
 have eg:∀args w,(callFunc 125 args).run Tryz.prog w=.ok (.enter 125 args) w:=enters_of Tryz.func125 (by kernel_rfl) rfl
 have hcon:=AnyQ.slices_SortFunc Tryz.sortFe 9 Tryz.isAgg65 Tryz.sizeOf65 FV.cells (fun _=>rfl) (fun x v hv=>by simp[FV.cells] at hv;rcases hv with rfl|rfl|rfl|rfl|rfl|rfl|rfl|rfl|rfl<;>rfl) FK (UM JQ vK vM) 125 #[] blk off cap l.toArray w eg (Nh blk off _ w) hH hblk (by simpa using hsz)
 change Calls Tryz.prog 119 _ _ _ at hcon
 refine hcon.mono ?_
 rintro e w' ⟨rfl,d',n,os,hp,hs,rfl⟩
 refine⟨rfl,pY FV.cells 9 w blk off n d' os,?_⟩
 have hp3:d'.toList.Perm l:=by
  have h3:=hp.2.2
  have e1:d'.extract 0 l.toArray.size=d':=by rw[<-hp.1];exact Array.extract_size
  rw[e1,Array.extract_size] at h3
  simpa using h3
 have hs3:d'.toList.Pairwise fun x y=>leI x y=true:=by
  rw[List.pairwise_iff_getElem]
  intro i j hi hj hij
  have hi':i<d'.size:=by simpa using hi
  have hj':j<d'.size:=by simpa using hj
  have h4:=hs i j (Nat.zero_le _) hij (by rw[<-hp.1];exact hj')
  rw[getElem!_pos d' j hj',getElem!_pos d' i hi',JQ] at h4
  simpa using h4
 have e3:d'=(l.mergeSort leI).toArray:=by
  have:=xg JR vK vM hn hp3 hs3
  rw[<-this]
 rw[<-e3]
 exact holdsK_sortWorldK_c FV.cells 9 w blk off l.toArray d' n os hH hblk hp.1
theorem D9 {W:World}{base g cap:Nat}{L:List FV}(h:W.ownsRow base 65 9 (.slice (some ⟨g,0,none⟩) L.length cap) L.length (L.flatMap FV.cells)):HoldsK FV.cells 9 W g 0 L.toArray:=by
 intro t ht
 have ht':t<L.length*9:=by simpa using ht
 rw[get_flatK _ _ _ _ (by simpa using ht'),Nat.zero_add]
 refine⟨?_,h.frozenAt t⟩
 rw[h.cellAt t ht']
 have hk:t / 9<L.length:=by omega
 have:=(ig FV.cells 9 (fun _=>rfl) L (t / 9) (t%9) (FV.cells L[t / 9])[t%9]! (by omega)).2 ⟨L[t / 9],List.getElem?_eq_getElem hk,by
  have:t%9<(FV.cells L[t / 9]).length:=by show t%9<9;omega
  simp[this]⟩
 rw[show t / 9*9+t%9=t by omega] at this
 rw[this]
 simp[hk]
theorem GV {W:World}{g:Nat}{L:List FV}(h:HoldsK FV.cells 9 W g 0 L.toArray)(hg:g<W.heap.size):Rd W W.heap.size 9 (some ⟨g,0,none⟩) (L.map FV.cells):=by
 refine .inr ⟨g,0,rfl,hg,fun k x hx j v hv=>?_⟩
 rw[List.getElem?_map] at hx
 cases hlk:L[k]? with
 | none=>rw[hlk] at hx;cases hx
 | some y =>
  rw[hlk] at hx
  injection hx with hx
  subst hx
  have hk:=(List.getElem?_eq_some_iff.1 hlk).1
  have hj:j<9:=(List.getElem?_eq_some_iff.1 hv).1
  have hc:=(h.cell (i:=k) (c:=j) (by simpa using hk) hj).1
  rw[hc]
  have e:L.toArray[k]! = y:=by
   rw[List.getElem?_eq_getElem hk] at hlk
   injection hlk with hlk
   simp[hk,hlk]
  rw[e,<-hv,getElem!_pos y.cells j hj,List.getElem?_eq_getElem hj]
theorem Q7 (base:Nat)(v:Value)(l:List FV)(w:World)(h:w.ownsRow base 65 9 v l.length (l.flatMap FV.cells))(hsz:l.length<4611686018427387904)(hn:(l.map FV.id).Nodup) :
  Calls Tryz.prog 119 #[v,.func (.func 120) #[] #[]] w fun e w'=>e=.returned (.tuple #[])/\w.grownBy w' v.ownBlock/\∃A c,v=.slice A l.length c/\Rd w' w'.heap.size 9 A ((l.mergeSort GM).map FV.cells):=by
 rcases h.2 with⟨rfl,h0⟩|⟨g,cap,cur,rfl,hb,hg,_⟩
 ·have hl:l=[]:=List.length_eq_zero_iff.1 h0
  subst hl
  refine (AnyF.slices_SortFunc_none Tryz.sortFe none 0 _ w).mono ?_
  rintro e w' ⟨rfl,rfl⟩
  exact⟨rfl,(Grew.refl w').grownBy _,none,0,rfl,by simp[Rd.nil]⟩
 ·have hlt:=au hg
  refine (Q5 g 0 cap l w (D9 h) hlt hsz hn).mono ?_
  rintro e w' ⟨rfl,hgb,hh⟩
  exact⟨rfl,hgb,_,_,rfl,GV hh (Nat.lt_of_lt_of_le hlt hgb.size)⟩
theorem Q4 (base:Nat)(v:Value)(l:List FV)(w:World)(h:w.ownsRow base 65 9 v l.length (l.flatMap FV.cells))(hsz:l.length<4611686018427387904)(hn:(l.map FV.id).Nodup) :
  Calls Tryz.prog 119 #[v,.func (.func 125) #[] #[]] w fun e w'=>e=.returned (.tuple #[])/\w.grownBy w' v.ownBlock/\∃A c,v=.slice A l.length c/\Rd w' w'.heap.size 9 A ((l.mergeSort leI).map FV.cells):=by
 rcases h.2 with⟨rfl,h0⟩|⟨g,cap,cur,rfl,hb,hg,_⟩
 ·have hl:l=[]:=List.length_eq_zero_iff.1 h0
  subst hl
  refine (AnyF.slices_SortFunc_none Tryz.sortFe none 0 _ w).mono ?_
  rintro e w' ⟨rfl,rfl⟩
  exact⟨rfl,(Grew.refl w').grownBy _,none,0,rfl,by simp[Rd.nil]⟩
 ·have hlt:=au hg
  refine (Q3 g 0 cap l w (D9 h) hlt hsz hn).mono ?_
  rintro e w' ⟨rfl,hgb,hh⟩
  exact⟨rfl,hgb,_,_,rfl,GV hh (Nat.lt_of_lt_of_le hlt hgb.size)⟩
theorem J7 (x:Int):∀ (l:List FV) (i:Nat),i<l.length->(l.flatMap FV.cells).set (i*9+4) (.int .i64 x)=(l.set i { bF l i with dC:=x }).flatMap FV.cells
 | [],i,h=>by simp at h
 | a::l,0,_=>by simp[FV.cells,bF]
 | a::l,i+1,h=>by
  have ih:=J7 x l i (by simpa using h)
  have e:bF (a::l) (i+1)=bF l i:=by unfold bF;rw[List.getD_cons_succ]
  rw[e,List.set_cons_succ,List.flatMap_cons,List.flatMap_cons,<-ih]
  rw[show (i+1)*9+4=(i*9+4)+1+1+1+1+1+1+1+1+1 by omega]
  simp[FV.cells]
theorem PG {w:World}{base g n cap i:Nat}{fs:List FV}(h:w.ownsRow base 65 9 (.slice (some ⟨g,0,none⟩) n cap) n (fs.flatMap FV.cells))(hi:i<fs.length)(x:Int):(w.setCell ⟨g,i*9+4,none⟩ (.int .i64 x)).ownsRow base 65 9 (.slice (some ⟨g,0,none⟩) n cap) n ((fs.set i { bF fs i with dC:=x }).flatMap FV.cells):=by
 rw[<-J7 x fs i hi]
 exact (h.stored _ _).1
theorem Lt (x:Int):∀ (l:List FV) (i:Nat),i<l.length->(l.flatMap FV.cells).set (i*9+6) (.int .i64 x)=(l.set i { bF l i with dep:=x }).flatMap FV.cells
 | [],i,h=>by simp at h
 | a::l,0,_=>by simp[FV.cells,bF]
 | a::l,i+1,h=>by
  have ih:=Lt x l i (by simpa using h)
  have e:bF (a::l) (i+1)=bF l i:=by unfold bF;rw[List.getD_cons_succ]
  rw[e,List.set_cons_succ,List.flatMap_cons,List.flatMap_cons,<-ih]
  rw[show (i+1)*9+6=(i*9+6)+1+1+1+1+1+1+1+1+1 by omega]
  simp[FV.cells]
theorem Zw {w:World}{base g n cap i:Nat}{fs:List FV}(h:w.ownsRow base 65 9 (.slice (some ⟨g,0,none⟩) n cap) n (fs.flatMap FV.cells))(hi:i<fs.length)(x:Int):(w.setCell ⟨g,i*9+6,none⟩ (.int .i64 x)).ownsRow base 65 9 (.slice (some ⟨g,0,none⟩) n cap) n ((fs.set i { bF fs i with dep:=x }).flatMap FV.cells):=by
 rw[<-Lt x fs i hi]
 exact (h.stored _ _).1
theorem YE {fs:List FV}{k:Nat}(h:k<fs.length):fs.set k (bF fs k)=fs:=by
 apply List.ext_getElem?
 intro i
 by_cases hi:i=k
 ·subst hi
  rw[List.getElem?_set_self h,dI h]
 ·rw[List.getElem?_set_ne (fun e=>hi e.symm)]
theorem Zj {W W':World}{b o:Nat}{v:Value}(h:Grew W W')(hb:W.heap.size<=b):Grew W (W'.setCell ⟨b,o,none⟩ v):=Grew.of_below (h.below.setCell (p:=⟨b,o,none⟩) hb v)
theorem yB {W X X':World}{base:Nat}{e:TypeId}{size:Nat}{v:Value}{n:Nat}{xs:List Value}(h:Grew W X)(hown:X.ownsRow base e size v n xs)(hb:W.heap.size<=base)(hg:X.grownBy X' v.ownBlock):Grew W X' :=
 Grew.of_below (h.below.grown hg h.below.size fun q hq=>Nat.le_trans hb (hown.lt q hq).1)
theorem yV {w:World}{base base':Nat}{e:TypeId}{size:Nat}{v:Value}{n:Nat}{xs:List Value}(h:w.ownsRow base e size v n xs)(hb:base'<=base):w.ownsRow base' e size v n xs :=
 ⟨h.1,h.2.imp id fun ⟨g,cap,cur,h1,h2,h3⟩=>⟨g,cap,cur,h1,Nat.le_trans hb h2,h3⟩⟩
theorem Un.up {W W':World}{b o:Nat}{f:FV}(h:Un W b o f)(hg:Grew W W')(hb:b<W.heap.size):Un W' b o f:=by
 have c:=iW hg
 exact⟨(c _ _ hb).trans h.c0,(c _ _ hb).trans h.c1,(c _ _ hb).trans h.c2,(c _ _ hb).trans h.c3,(c _ _ hb).trans h.c4,(c _ _ hb).trans h.c5,(c _ _ hb).trans h.c6,(c _ _ hb).trans h.c7,(c _ _ hb).trans h.c8⟩
theorem Un.new (w:World)(f:FV):Un (w.alloc (.cells #[.int .i64 f.id,.int .i64 f.kind,.int .i64 f.x,.int .i64 f.y,.int .i64 f.dC,.slice f.aA f.area.length f.ac,.int .i64 f.dep,.int .i64 f.sym,.slice f.sA f.secs.length f.sc] 65)) w.heap.size 0 f :=
 ⟨ag (heap_alloc_new _ _) 0,ag (heap_alloc_new _ _) 1,ag (heap_alloc_new _ _) 2,ag (heap_alloc_new _ _) 3,ag (heap_alloc_new _ _) 4,ag (heap_alloc_new _ _) 5,ag (heap_alloc_new _ _) 6,ag (heap_alloc_new _ _) 7,ag (heap_alloc_new _ _) 8⟩
theorem Rd.agZ {W:World}{b:Nat}{cs:Array Value}{T:TypeId}(fs:List FV)(h:W.heap[b]?=some (.cells cs T (0,0)))(hc:cs.toList=fs.flatMap FV.cells):Rd W W.heap.size 9 (some ⟨b,0,none⟩) (fs.map FV.cells):=by
 refine .inr ⟨b,0,rfl,au h,fun k x hx j v hv=>?_⟩
 rw[List.getElem?_map] at hx
 cases hlk:fs[k]? with
 | none=>rw[hlk] at hx;cases hx
 | some y =>
  rw[hlk] at hx
  injection hx with hx
  subst hx
  have hj:j<9:=(List.getElem?_eq_some_iff.1 hv).1
  have:=(ig FV.cells 9 fZ fs k j v hj).2 ⟨y,hlk,hv⟩
  rw[<-hc] at this
  rw[cell_of_row W b _ cs T (0,0) h,Nat.zero_add]
  simpa using this
theorem Rd.agb (w:World)(f:FV)(b:Nat)(hb:b=w.heap.size):Rd (w.alloc (.cells #[.int .i64 f.id,.int .i64 f.kind,.int .i64 f.x,.int .i64 f.y,.int .i64 f.dC,.slice f.aA f.area.length f.ac,.int .i64 f.dep,.int .i64 f.sym,.slice f.sA f.secs.length f.sc] 65)) (w.heap.size+1) 9 (some ⟨b,0,none⟩) ([f].map FV.cells):=by
 have:=Rd.agZ (W:=w.alloc (.cells #[.int .i64 f.id,.int .i64 f.kind,.int .i64 f.x,.int .i64 f.y,.int .i64 f.dC,.slice f.aA f.area.length f.ac,.int .i64 f.dep,.int .i64 f.sym,.slice f.sA f.secs.length f.sc] 65)) [f] (az _ _ b hb) rfl
 rwa [World.mG] at this
end Go.Proofs.YtlkgjmnjhifehaaGreat
