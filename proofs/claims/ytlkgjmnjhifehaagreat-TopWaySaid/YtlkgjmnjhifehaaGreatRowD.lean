/- Opening a statement's arguments: integers, places, proofs, rules, features and lists of them. Opening a statement's arguments: rules and lists of them. -/
import Derived.Test.YtlkgjmnjhifehaaGreatRows
import Derived.Test.YtlkgjmnjhifehaaGreatPgX
import Derived.ProofKit
import Derived.OpenShut
import Derived.SizedLaws
import Derived.Deep.Slices
import Derived.Deep.Fields
import Derived.ChangeSame
import Derived.Test.YtlkgjmnjhifehaaGreatRuD
set_option linter.unusedSimpArgs false
set_option linter.unusedVariables false
set_option maxRecDepth 100000
namespace Go.Proofs.YtlkgjmnjhifehaaGreat
open Go.RowKit Go.Sort Go.ChangeShapes Go.WideShapes Go.ChangeAt Go.Deep
theorem own:ownKnob Tryz.prog.godebug=none:=by kernel_rfl
theorem laidOut:laidOutB Tryz.prog=true:=by kernel_rfl
theorem wO:Tryz.prog.cellsOf 3=1:=by kernel_rfl
theorem zT:Tryz.prog.cellsOf 28=2:=by kernel_rfl
theorem LX:Tryz.prog.cellsOf 180=6:=by kernel_rfl
theorem Qv:Tryz.prog.cellsOf 65=9:=by kernel_rfl
theorem ZK:Tryz.prog.cellsOf 62=1:=by kernel_rfl
theorem ZJ:Tryz.prog.cellsOf 63=1:=by kernel_rfl
theorem ZO:8<=Tryz.prog.bytesOf 28:=of_decide_eq_true (by kernel_rfl)
theorem XC:8<=Tryz.prog.bytesOf 180:=of_decide_eq_true (by kernel_rfl)
theorem ZP:8<=Tryz.prog.bytesOf 65:=of_decide_eq_true (by kernel_rfl)
def In64 (a:Int):Prop:=-9223372036854775808<=a/\a<=9223372036854775807
theorem P8 {a:Int}(h:(Lit.int .i64 a).wf=true):In64 a:=by
 have h1:IntKind.i64.min=-9223372036854775808:=rfl
 have h2:IntKind.i64.max=9223372036854775807:=rfl
 simp only[Lit.wf,Bool.and_eq_true,decide_eq_true_eq] at h
 unfold In64
 omega
theorem Gl {H:Type}{P:Program}{ts:List TypeId}{ds:List (DataW H)}(h:(DataW.weightsEach P ts ds).all (· <= reachBytes)=true){j:Nat}{t:TypeId}{d:DataW H}(ht:ts[j]?=some t)(hd:ds[j]?=some d):∀y∈d.weights P t,y<=reachBytes:=fun y hy=>by
 have:=List.all_eq_true.1 h _ (DataW.weights_mem_each ht hd y hy)
 simpa using this
theorem BC {H:Type}{P:Program}{e:TypeId}:∀ {ds:List (DataW H)} {d:DataW H},d∈ds->∀n∈d.weights P e,n∈DataW.weightsAll P e ds
 | d0::ds,d,hd,n,hn=>by
  simp only[DataW.weightsAll,List.mem_append]
  rcases List.mem_cons.1 hd with rfl|hd
  ·exact Or.inl hn
  ·exact Or.inr (BC hd n hn)
 | [],_,hd,_,_=>by cases hd
section
variable {H:Type} {enc:TypeId×Value->H} {w:World} {base:Nat} {spare:Nat->Bool} {held:Bool}
theorem sD {P:Program}{T:Type}[Inhabited T]{t e:TypeId}(ht:P.underlying t=some (.slice e))(SS:T->List Value)(m:Nat)(hm:P.cellsOf e=m)(h0m:0<m)(hlen:∀s,(SS s).length=m)(Good:T->Prop)(hby:8<=P.bytesOf e)
  (hdec:∀fuel cs (x:DataW H×List MemPlace),DataW.trod enc P w base (fun _=>true) held fuel e cs=some x->(∀y∈x.2,y.block<w.heap.size)->(∀y∈x.1.weights P e,y<=reachBytes)->∃s,cs=SS s/\Good s)
  {fuel:Nat} {cs:List Value} {x:DataW H×List MemPlace} (h:DataW.trod enc P w base (fun _=>true) held fuel t cs=some x) (hlt:∀y∈x.2,y.block<w.heap.size) (hw:∀y∈x.1.weights P t,y<=reachBytes) :
  ∃ (ss:List T) (A:Option Addr) (c:Nat),cs=[.slice A ss.length c]/\ss.length<=c/\ss.length<=100000000000000/\Rd w w.heap.size m A (ss.map SS)/\∀s∈ss,Good s:=by
 rcases open_slice ht h with⟨h1,h2⟩|⟨a,len,cap,k,n,D,Pl,h1,_,hl,hcap,hmm,hx,hi⟩
 ·exact⟨[],none,0,h1,Nat.le_refl _,by simp,.inl rfl,fun s hs=>by cases hs⟩
 ·simp only[if_true] at hmm
  obtain rfl:=hmm
  subst h1
  rw[hx] at hlt hw
  rw[hm] at hi hlt
  have hreach:(len+(k-len))*P.bytesOf e<=reachBytes:=hw _ (by simp[DataW.weights,ht])
  have hr8:(len+(k-len))*8<=reachBytes:=Nat.le_trans (Nat.mul_le_mul_left _ hby) hreach
  simp only[reachBytes] at hr8
  have aei:∀i,i<len->∃s:T,(∀j u,(SS s)[j]?=some u->w.cell? (a.add (i*m+j))=some u)/\Good s:=by
   intro i hil
   obtain⟨cs',hc,htr⟩:=hi i (by omega)
   obtain⟨s,rfl,hg⟩:=hdec _ _ _ htr (fun y hy=>hlt y (List.mem_append_right _ (List.mem_flatMap.2 ⟨i,List.mem_range.2 (by omega),hy⟩))) (fun y hy=>hw y (by
    simp only[DataW.weights,ht,List.mem_cons,List.mem_append]
    exact .inr (.inl (BC (List.mem_map.2 ⟨i,List.mem_range.2 hil,rfl⟩) y hy))))
   refine⟨s,fun j u hu=>?_,hg⟩
   obtain⟨_,_,hat⟩:=World.cells?_some hc
   have hj:j<m:=by rw[<-hlen s];exact (List.getElem?_eq_some_iff.1 hu).1
   have:=hat j hj
   rw[hu,Go.Deep.add_add] at this
   exact this
  obtain⟨f,hf2⟩:∃f:Nat->T,∀i,i<len->(∀j u,(SS (f i))[j]?=some u->w.cell? (a.add (i*m+j))=some u)/\Good (f i):=by
   refine⟨fun i=>if h:i<len then (aei i h).choose else default,fun i hil=>?_⟩
   simp only[dif_pos hil]
   exact (aei i hil).choose_spec
  refine⟨(List.range len).map f,some a,k,by simp,by simpa using hl,by simp;omega,?_,?_⟩
  ·rcases Nat.eq_zero_or_pos len with h0|h0
   ·subst h0
    exact .inl rfl
   ·have hl0:=hlen (f 0)
    obtain⟨u0,hu0⟩:∃u,(SS (f 0))[0]?=some u:=⟨_,List.getElem?_eq_getElem (by omega)⟩
    have hc0:=(hf2 0 h0).1 0 _ hu0
    obtain⟨b,off,spot⟩:=a
    have hspot:spot=none:=by simpa[Addr.add] using World.cell?_spot hc0
    subst hspot
    refine .inr ⟨b,off,rfl,hlt (.cell b off) ?_,fun k' x hx j u hu=>?_⟩
    ·refine List.mem_append_left _ (MemPlace.mem_row.2 ⟨0,?_,by simp⟩)
     have:0<k:=by omega
     exact Nat.mul_pos this h0m
    ·rw[List.map_map,List.getElem?_map] at hx
     obtain⟨i,hik,rfl⟩:=Option.map_eq_some_iff.1 hx
     have hkl:k'<len:=by have:=(List.getElem?_eq_some_iff.1 hik).1;simpa using this
     rw[List.getElem?_range hkl] at hik
     injection hik with hik
     subst hik
     have:=(hf2 k' hkl).1 j u hu
     rw[rV] at this
     rw[Nat.add_assoc]
     exact this
  ·intro s hs
   obtain⟨i,hi',rfl⟩:=List.mem_map.1 hs
   exact (hf2 i (List.mem_range.1 hi')).2
theorem Gh {fuel:Nat}{t:TypeId}{fs:Array Field}(ht:Tryz.prog.underlying t=some (.struct fs))(hc2:Tryz.prog.cellsOf t=2)(hfs:fs.size=2){s0 s1:Field}(hf0:fs[0]?=some s0)(hf1:fs[1]?=some s1)(e0:s0.type=3)(e1:s1.type=3)(o0:s0.offset=0)(o1:s1.offset=1)
  {cs:List Value} {x:DataW H×List MemPlace} (h:DataW.trod enc Tryz.prog w base spare held fuel t cs=some x):∃a b:Int,cs=[.int .i64 a,.int .i64 b]/\In64 a/\In64 b:=by
 obtain⟨xs,n,_,_,hl,hlen,hf⟩:=DataW.trod_struct ht h
 rw[hc2] at hl
 rw[hfs] at hlen
 match cs,hl with
 | [u,v],_ =>
  have g0:=hf 0 _ hf0
  have g1:=hf 1 _ hf1
  rw[e0,o0] at g0
  rw[e1,o1] at g1
  rw[List.getElem?_eq_getElem (by omega)] at g0
  rw[List.getElem?_eq_getElem (by omega)] at g1
  rw[wO] at g0 g1
  obtain⟨a,ha,_,wa⟩:=DataW.trod_int Tryz.underlying3 g0
  obtain⟨b,hb,_,wb⟩:=DataW.trod_int Tryz.underlying3 g1
  simp at ha hb
  exact⟨a,b,by rw[ha,hb],P8 wa,P8 wb⟩
theorem sK {fuel:Nat}{cs:List Value}{x:DataW H×List MemPlace}(h:DataW.trod enc Tryz.prog w base spare held fuel 28 cs=some x):∃a b:Int,cs=[.int .i64 a,.int .i64 b]/\In64 a/\In64 b :=
 Gh Tryz.underlying28 zT rfl rfl rfl rfl rfl rfl rfl h
theorem Rf {fuel:Nat}{cs:List Value}{x:DataW H×List MemPlace}(h:DataW.trod enc Tryz.prog w base spare held fuel 180 cs=some x):∃s:fJ,cs=s.cells:=by
 obtain⟨xs,n,_,_,hl,hlen,hf⟩:=DataW.trod_struct Tryz.underlying180 h
 rw[LX] at hl
 match cs,hl with
 | [v0,v1,v2,v3,v4,v5],_ =>
  have g0:DataW.trod enc Tryz.prog w base spare held n 28 (([v0,v1,v2,v3,v4,v5].drop 0).take (Tryz.prog.cellsOf 28))=xs[0]?:=hf 0 _ rfl
  have g1:DataW.trod enc Tryz.prog w base spare held n 28 (([v0,v1,v2,v3,v4,v5].drop 2).take (Tryz.prog.cellsOf 28))=xs[1]?:=hf 1 _ rfl
  have g2:DataW.trod enc Tryz.prog w base spare held n 3 (([v0,v1,v2,v3,v4,v5].drop 4).take (Tryz.prog.cellsOf 3))=xs[2]?:=hf 2 _ rfl
  have g3:DataW.trod enc Tryz.prog w base spare held n 3 (([v0,v1,v2,v3,v4,v5].drop 5).take (Tryz.prog.cellsOf 3))=xs[3]?:=hf 3 _ rfl
  have l0:0<xs.length:=by rw[hlen];decide
  have l1:1<xs.length:=by rw[hlen];decide
  have l2:2<xs.length:=by rw[hlen];decide
  have l3:3<xs.length:=by rw[hlen];decide
  rw[List.getElem?_eq_getElem l0] at g0
  rw[List.getElem?_eq_getElem l1] at g1
  rw[List.getElem?_eq_getElem l2] at g2
  rw[List.getElem?_eq_getElem l3] at g3
  rw[wO] at g2 g3
  rw[zT] at g0 g1
  obtain⟨a,b,h1,_⟩:=sK g0
  obtain⟨c,d,h2,_⟩:=sK g1
  obtain⟨e,h3,_,_⟩:=DataW.trod_int Tryz.underlying3 g2
  obtain⟨f,h4,_,_⟩:=DataW.trod_int Tryz.underlying3 g3
  simp at h1 h2 h3 h4
  exact⟨⟨a,b,c,d,e,f⟩,by rw[h1.1,h1.2,h2.1,h2.2,h3,h4];rfl⟩
theorem Xh {fuel:Nat}{cs:List Value}{x:DataW H×List MemPlace}(h:DataW.trod enc Tryz.prog w base (fun _=>true) held fuel 65 cs=some x)(hlt:∀y∈x.2,y.block<w.heap.size)(hw:∀y∈x.1.weights Tryz.prog 65,y<=reachBytes):∃f:FV,cs=f.cells/\f.rd w w.heap.size:=by
 obtain⟨xs,n,_,hx,hl,hlen,hf⟩:=DataW.trod_struct Tryz.underlying65 h
 rw[Qv] at hl
 match cs,hl with
 | [v0,v1,v2,v3,v4,v5,v6,v7,v8],_ =>
  have g0:DataW.trod enc Tryz.prog w base (fun _=>true) held n 3 (([v0,v1,v2,v3,v4,v5,v6,v7,v8].drop 0).take (Tryz.prog.cellsOf 3))=xs[0]?:=hf 0 _ rfl
  have g1:DataW.trod enc Tryz.prog w base (fun _=>true) held n 3 (([v0,v1,v2,v3,v4,v5,v6,v7,v8].drop 1).take (Tryz.prog.cellsOf 3))=xs[1]?:=hf 1 _ rfl
  have g2:DataW.trod enc Tryz.prog w base (fun _=>true) held n 28 (([v0,v1,v2,v3,v4,v5,v6,v7,v8].drop 2).take (Tryz.prog.cellsOf 28))=xs[2]?:=hf 2 _ rfl
  have g3:DataW.trod enc Tryz.prog w base (fun _=>true) held n 3 (([v0,v1,v2,v3,v4,v5,v6,v7,v8].drop 4).take (Tryz.prog.cellsOf 3))=xs[3]?:=hf 3 _ rfl
  have g4:DataW.trod enc Tryz.prog w base (fun _=>true) held n 62 (([v0,v1,v2,v3,v4,v5,v6,v7,v8].drop 5).take (Tryz.prog.cellsOf 62))=xs[4]?:=hf 4 _ rfl
  have g5:DataW.trod enc Tryz.prog w base (fun _=>true) held n 3 (([v0,v1,v2,v3,v4,v5,v6,v7,v8].drop 6).take (Tryz.prog.cellsOf 3))=xs[5]?:=hf 5 _ rfl
  have g6:DataW.trod enc Tryz.prog w base (fun _=>true) held n 3 (([v0,v1,v2,v3,v4,v5,v6,v7,v8].drop 7).take (Tryz.prog.cellsOf 3))=xs[6]?:=hf 6 _ rfl
  have g7:DataW.trod enc Tryz.prog w base (fun _=>true) held n 63 (([v0,v1,v2,v3,v4,v5,v6,v7,v8].drop 8).take (Tryz.prog.cellsOf 63))=xs[7]?:=hf 7 _ rfl
  have hl8:xs.length=8:=by rw[hlen];rfl
  clear hlen hf
  rw[List.getElem?_eq_getElem (by omega)] at g0 g1 g2 g3 g4 g5 g6 g7
  rw[wO] at g0 g1 g3 g5 g6
  rw[zT] at g2
  rw[ZK] at g4
  rw[ZJ] at g7
  obtain⟨a0,h0,_,_⟩:=DataW.trod_int Tryz.underlying3 g0
  obtain⟨a1,h1,_,_⟩:=DataW.trod_int Tryz.underlying3 g1
  obtain⟨x2,y2,h2,_⟩:=sK g2
  obtain⟨a3,h3,_,_⟩:=DataW.trod_int Tryz.underlying3 g3
  obtain⟨a5,h5,_,_⟩:=DataW.trod_int Tryz.underlying3 g5
  obtain⟨a6,h6,_,_⟩:=DataW.trod_int Tryz.underlying3 g6
  have hpl:∀ (i:Nat) (hi:i<xs.length),∀y∈xs[i].2,y.block<w.heap.size:=fun i hi y hy=>hlt y (by rw[hx];exact List.mem_flatMap.2 ⟨xs[i],List.getElem_mem hi,hy⟩)
  have hwt:∀ (i:Nat) (hi:i<xs.length) (t:TypeId),((Tryz.prog.underlying 65).bind fun d=>match d with | .struct fs=>(fs.toList.map (·.type))[i]?|_=>none)=some t->∀y∈xs[i].1.weights Tryz.prog t,y<=reachBytes:=fun i hi t ht y hy=>hw y (by
   rw[hx]
   rw[Tryz.underlying65] at ht
   simp only[DataW.weights,Tryz.underlying65]
   exact DataW.weights_mem_each (j:=i) ht (by rw[List.getElem?_map,List.getElem?_eq_getElem hi];rfl) y hy)
  obtain⟨ss4,A4,c4,h4,hc4,hb4,hr4,_⟩:=sD Tryz.underlying62 dY 2 zT (by omega) ni (fun _=>True) ZO (fun fuel cs x h _ _=>by obtain⟨a,b,h,_⟩:=sK h;exact⟨(a,b),h,trivial⟩) g4 (hpl 4 _) (hwt 4 _ 62 (by rw[Tryz.underlying65];rfl))
  obtain⟨ss7,A7,c7,h7,hc7,hb7,hr7,_⟩:=sD Tryz.underlying63 fJ.cells 6 LX (by omega) (fun s=>rfl) (fun _=>True) XC (fun fuel cs x h _ _=>by obtain⟨s,h⟩:=Rf h;exact⟨s,h,trivial⟩) g7 (hpl 7 _) (hwt 7 _ 63 (by rw[Tryz.underlying65];rfl))
  simp at h0 h1 h2 h3 h4 h5 h6 h7
  refine⟨⟨a0,a1,x2,y2,a3,A4,c4,ss4,a5,a6,A7,c7,ss7⟩,by rw[h0,h1,h2.1,h2.2,h3,h4,h5,h6,h7];rfl,⟨hr4,hr7,hb4,hb7,hc7⟩⟩
theorem PN {r:Reach}{b0:Nat}{v:Value}{d:DataW H}{p:List MemPlace}(hv:Value.okWide Tryz.prog w r b0 28 v)(h:DataW.Trod enc Tryz.prog w base spare held 28 v d p) :
  ∃a b:Int,v=pt a b/\In64 a/\In64 b:=by
 obtain⟨cs,rfl,_⟩:=okWide_struct Tryz.underlying28 hv
 obtain⟨fuel,hf⟩:=h
 obtain⟨a,b,hc,wa,wb⟩:=sK hf
 refine⟨a,b,?_,wa,wb⟩
 obtain⟨l⟩:=cs
 simp[Value.cells] at hc
 rw[hc]
end
theorem Qu:Tryz.prog.cellsOf 71=3:=by kernel_rfl
theorem ZN:8<=Tryz.prog.bytesOf 71:=of_decide_eq_true (by kernel_rfl)
section
variable {H:Type} {enc:TypeId×Value->H} {w:World} {base:Nat} {spare:Nat->Bool} {held:Bool}
theorem U3 {fuel:Nat}{cs:List Value}{x:DataW H×List MemPlace}(h:DataW.trod enc Tryz.prog w base spare held fuel 71 cs=some x):∃r:Ru,cs=encR r:=by
 obtain⟨xs,n,_,_,hl,hlen,hf⟩:=DataW.trod_struct Tryz.underlying71 h
 rw[Qu] at hl
 match cs,hl with
 | [v0,v1,v2],_ =>
  have g0:DataW.trod enc Tryz.prog w base spare held n 3 (([v0,v1,v2].drop 0).take (Tryz.prog.cellsOf 3))=xs[0]?:=hf 0 _ rfl
  have g1:DataW.trod enc Tryz.prog w base spare held n 3 (([v0,v1,v2].drop 1).take (Tryz.prog.cellsOf 3))=xs[1]?:=hf 1 _ rfl
  have g2:DataW.trod enc Tryz.prog w base spare held n 3 (([v0,v1,v2].drop 2).take (Tryz.prog.cellsOf 3))=xs[2]?:=hf 2 _ rfl
  have hl3:xs.length=3:=by rw[hlen];rfl
  rw[List.getElem?_eq_getElem (by omega)] at g0 g1 g2
  rw[wO] at g0 g1 g2
  obtain⟨a,h0,_,_⟩:=DataW.trod_int Tryz.underlying3 g0
  obtain⟨b,h1,_,_⟩:=DataW.trod_int Tryz.underlying3 g1
  obtain⟨c,h2,_,_⟩:=DataW.trod_int Tryz.underlying3 g2
  simp at h0 h1 h2
  exact⟨(a,b,c),by rw[h0,h1,h2];rfl⟩
theorem Vu {r:Reach}{b0:Nat}{v:Value}{d:DataW H}{p:List MemPlace}(hv:Value.okWide Tryz.prog w r b0 26 v)(h:DataW.Trod enc Tryz.prog w base (fun _=>true) held 26 v d p)(hlt:∀x∈p,x.block<w.heap.size)(hw:∀y∈d.weights Tryz.prog 26,y<=reachBytes) :
  ∃ (ss:List Ru) (A:Option Addr) (c:Nat),v=.slice A ss.length c/\ss.length<=c/\ss.length<=100000000000000/\Rd w w.heap.size 3 A (ss.map encR):=by
 obtain⟨a0,len,cap,rfl⟩:=okWide_slice Tryz.underlying26 hv
 obtain⟨fuel,hf⟩:=h
 obtain⟨ss,A,c,h1,h2,h3,h4,_⟩:=sD Tryz.underlying26 encR 3 Qu (by omega) Ll (fun _=>True) ZN (fun fuel cs x h _ _=>by obtain⟨s,h⟩:=U3 h;exact⟨s,h,trivial⟩) hf hlt hw
 simp[Value.cells] at h1
 obtain⟨rfl,rfl,rfl⟩:=h1
 exact⟨ss,_,_,rfl,h2,h3,h4⟩
end
end Go.Proofs.YtlkgjmnjhifehaaGreat
