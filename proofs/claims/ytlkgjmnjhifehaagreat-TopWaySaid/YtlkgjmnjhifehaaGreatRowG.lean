/- Opening a statement's arguments: surveys. -/
import Derived.Test.YtlkgjmnjhifehaaGreatRowD
import Derived.Test.YtlkgjmnjhifehaaGreatSvX
set_option linter.unusedSimpArgs false
set_option linter.unusedVariables false
set_option maxRecDepth 100000
namespace Go.Proofs.YtlkgjmnjhifehaaGreat
open Go.RowKit Go.Sort Go.ChangeShapes Go.WideShapes Go.ChangeAt Go.Deep
theorem Qr:Tryz.prog.cellsOf 48=2:=by kernel_rfl
theorem Qs:Tryz.prog.cellsOf 61=7:=by kernel_rfl
theorem ZG:Tryz.prog.cellsOf 25=2:=by kernel_rfl
theorem ZH:Tryz.prog.cellsOf 22=1:=by kernel_rfl
theorem ZI:Tryz.prog.cellsOf 23=1:=by kernel_rfl
theorem ZM:8<=Tryz.prog.bytesOf 61:=of_decide_eq_true (by kernel_rfl)
section
variable {H:Type} {enc:TypeId×Value->H} {w:World} {base:Nat} {spare:Nat->Bool} {held:Bool}
theorem UU {fuel:Nat}{cs:List Value}{x:DataW H×List MemPlace}(h:DataW.trod enc Tryz.prog w base spare held fuel 48 cs=some x):∃a b:Int,cs=[.int .i64 a,.int .i64 b]/\In64 a/\In64 b :=
 Gh Tryz.underlying48 Qr rfl rfl rfl rfl rfl rfl rfl h
theorem UX {fuel:Nat}{cs:List Value}{x:DataW H×List MemPlace}(h:DataW.trod enc Tryz.prog w base spare held fuel 61 cs=some x):∃s:So,cs=s.cells:=by
 obtain⟨xs,n,_,_,hl,hlen,hf⟩:=DataW.trod_struct Tryz.underlying61 h
 rw[Qs] at hl
 match cs,hl with
 | [v0,v1,v2,v3,v4,v5,v6],_ =>
  have g0:DataW.trod enc Tryz.prog w base spare held n 3 (([v0,v1,v2,v3,v4,v5,v6].drop 0).take (Tryz.prog.cellsOf 3))=xs[0]?:=hf 0 _ rfl
  have g1:DataW.trod enc Tryz.prog w base spare held n 28 (([v0,v1,v2,v3,v4,v5,v6].drop 1).take (Tryz.prog.cellsOf 28))=xs[1]?:=hf 1 _ rfl
  have g2:DataW.trod enc Tryz.prog w base spare held n 3 (([v0,v1,v2,v3,v4,v5,v6].drop 3).take (Tryz.prog.cellsOf 3))=xs[2]?:=hf 2 _ rfl
  have g3:DataW.trod enc Tryz.prog w base spare held n 48 (([v0,v1,v2,v3,v4,v5,v6].drop 4).take (Tryz.prog.cellsOf 48))=xs[3]?:=hf 3 _ rfl
  have g4:DataW.trod enc Tryz.prog w base spare held n 3 (([v0,v1,v2,v3,v4,v5,v6].drop 6).take (Tryz.prog.cellsOf 3))=xs[4]?:=hf 4 _ rfl
  have hl5:xs.length=5:=by rw[hlen];rfl
  rw[List.getElem?_eq_getElem (by omega)] at g0 g1 g2 g3 g4
  rw[wO] at g0 g2 g4
  rw[zT] at g1
  rw[Qr] at g3
  obtain⟨a,h0,_,_⟩:=DataW.trod_int Tryz.underlying3 g0
  obtain⟨b,c,h1,_⟩:=sK g1
  obtain⟨d,h2,_,_⟩:=DataW.trod_int Tryz.underlying3 g2
  obtain⟨e,f,h3,_⟩:=UU g3
  obtain⟨g,h4,_,_⟩:=DataW.trod_int Tryz.underlying3 g4
  simp at h0 h1 h2 h3 h4
  exact⟨⟨a,b,c,d,e,f,g⟩,by rw[h0,h1.1,h1.2,h2,h3.1,h3.2,h4];rfl⟩
theorem YR {r:Reach}{b0:Nat}{v:Value}{d:DataW H}{p:List MemPlace}(hv:Value.okWide Tryz.prog w r b0 25 v)(h:DataW.Trod enc Tryz.prog w base (fun _=>true) held 25 v d p)(hlt:∀x∈p,x.block<w.heap.size)(hw:∀y∈d.weights Tryz.prog 25,y<=reachBytes) :
  ∃ (ss:List So) (A:Option Addr) (c:Nat) (fs:List FV) (A':Option Addr) (c':Nat),v=.agg #[.slice A ss.length c,.slice A' fs.length c']/\(ss.length<=100000000000000/\fs.length<=100000000000000)/\Rd w w.heap.size 7 A (ss.map So.cells)/\nI w w.heap.size A' fs:=by
 obtain⟨cs,rfl,_⟩:=okWide_struct Tryz.underlying25 hv
 obtain⟨fuel,hf⟩:=h
 obtain⟨l⟩:=cs
 simp only[Value.cells] at hf
 obtain⟨xs,n,_,hx,hl,hlen,hf⟩:=DataW.trod_struct Tryz.underlying25 hf
 rw[ZG] at hl
 match l,hl with
 | [v0,v1],_ =>
  have g0:DataW.trod enc Tryz.prog w base (fun _=>true) held n 22 (([v0,v1].drop 0).take (Tryz.prog.cellsOf 22))=xs[0]?:=hf 0 _ rfl
  have g1:DataW.trod enc Tryz.prog w base (fun _=>true) held n 23 (([v0,v1].drop 1).take (Tryz.prog.cellsOf 23))=xs[1]?:=hf 1 _ rfl
  have hl2:xs.length=2:=by rw[hlen];rfl
  clear hlen hf
  rw[List.getElem?_eq_getElem (by omega)] at g0 g1
  rw[ZH] at g0
  rw[ZI] at g1
  obtain⟨hxd,hxp⟩:=Prod.mk.inj hx
  have hpl:∀ (i:Nat) (hi:i<xs.length),∀y∈xs[i].2,y.block<w.heap.size:=fun i hi y hy=>hlt y (by rw[hxp];exact List.mem_flatMap.2 ⟨xs[i],List.getElem_mem hi,hy⟩)
  have hwt:∀ (i:Nat) (hi:i<xs.length) (t:TypeId),((Tryz.prog.underlying 25).bind fun d=>match d with | .struct fs=>(fs.toList.map (·.type))[i]?|_=>none)=some t->∀y∈xs[i].1.weights Tryz.prog t,y<=reachBytes:=fun i hi t ht y hy=>hw y (by
   rw[hxd]
   rw[Tryz.underlying25] at ht
   simp only[DataW.weights,Tryz.underlying25]
   exact DataW.weights_mem_each (j:=i) ht (by rw[List.getElem?_map,List.getElem?_eq_getElem hi];rfl) y hy)
  obtain⟨ss,A,c,h0,_,hb0,hr0,_⟩:=sD Tryz.underlying22 So.cells 7 Qs (by omega) (fun s=>rfl) (fun _=>True) ZM (fun fuel cs x h _ _=>by obtain⟨s,h⟩:=UX h;exact⟨s,h,trivial⟩) g0 (hpl 0 _) (hwt 0 _ 22 (by rw[Tryz.underlying25];rfl))
  obtain⟨fs,A',c',h1,_,hb1,hr1,hg1⟩:=sD Tryz.underlying23 FV.cells 9 Qv (by omega) (fun _=>rfl) (fun f=>f.rd w w.heap.size) ZP (fun fuel cs x h hlt hw=>Xh h hlt hw) g1 (hpl 1 _) (hwt 1 _ 23 (by rw[Tryz.underlying25];rfl))
  simp at h0 h1
  exact⟨ss,A,c,fs,A',c',by rw[h0,h1],⟨hb0,hb1⟩,hr0,⟨hr1,hg1⟩⟩
end
end Go.Proofs.YtlkgjmnjhifehaaGreat
