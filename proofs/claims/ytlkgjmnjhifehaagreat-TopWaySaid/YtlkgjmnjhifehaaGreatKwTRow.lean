/- The statement TopWay: for every input the law returns true, and each argument reads behind the call as it read before. No condition. -/
import Derived.Test.YtlkgjmnjhifehaaGreatRowG
import Derived.Test.YtlkgjmnjhifehaaGreatKwX
set_option linter.unusedSimpArgs false
set_option linter.unusedVariables false
set_option maxRecDepth 100000
namespace Go.Proofs.YtlkgjmnjhifehaaGreat.topWay
open Go.RowKit Go.Sort Go.ChangeShapes Go.WideShapes Go.ChangeAt Go.Deep
theorem lifted (os:Os)(started:os.Started)(H:Type)(enc:TypeId×Value->H) :
  ReturnsInHanded {} Tryz.checked os 3 .any (Rows.topWaySpec.pre6 enc Tryz.prog Tryz.f3 Rows.topWayRow.domain false) (Rows.topWaySpec.post enc Tryz.prog Tryz.f3 false true false false):=by
 refine returnsInHanded_of_change_sized (C:=Tryz.checked) own started (by kernel_rfl) Tryz.func3
  (ChangeSpec.witness6 (enc:=enc) (C:=Tryz.checked) false ⟨#[],#[.agg #[.slice none 0 0,.slice none 0 0],.slice none 0 0,.agg #[.int .i64 0,.int .i64 0],.int .i64 0,.int .i64 0,.int .i64 0,.int .i64 0,.int .i64 0,.int .i64 0,.agg #[.int .i64 0,.int .i64 0],.int .i64 0],[]⟩ 8 (by kernel_rfl) (by kernel_rfl) (by kernel_rfl) (by kernel_rfl)) ?_
 intro W base args ds gs before hval0 hW _ hsz0 _
 have hsz:(DataW.weightsEach Tryz.prog (Tryz.f3.params.toList++Rows.topWaySpec.plain.varTypes Tryz.prog) (ds++gs)).all (· <= reachBytes)=true:=hsz0
 clear hsz0
 have hval:∀ (j:Nat) t v,Tryz.f3.params[j]?=some t->args[j]?=some v->Value.okWide Tryz.prog W .any base t v:=hval0
 have hW':=hW
 obtain⟨p,q,hA0,hV,rfl,_,_⟩:=hW
 have hA:DataW.TrodAll enc Tryz.prog W 0 (fun _=>true) true Tryz.f3.params.toList args.toList ds p:=hA0
 rw[Tryz.params3] at hA hval hsz
 obtain⟨v0,vs0,d0,ds0,p0,q0,hargs,rfl,rfl,h0,r0⟩:=trodAll_cons hA
 obtain⟨v1,vs1,d1,ds1,p1,q1,rfl,rfl,rfl,h1,r1⟩:=trodAll_cons r0
 obtain⟨v2,vs2,d2,ds2,p2,q2,rfl,rfl,rfl,h2,r2⟩:=trodAll_cons r1
 obtain⟨v3,vs3,d3,ds3,p3,q3,rfl,rfl,rfl,h3,r3⟩:=trodAll_cons r2
 obtain⟨v4,vs4,d4,ds4,p4,q4,rfl,rfl,rfl,h4,r4⟩:=trodAll_cons r3
 obtain⟨v5,vs5,d5,ds5,p5,q5,rfl,rfl,rfl,h5,r5⟩:=trodAll_cons r4
 obtain⟨v6,vs6,d6,ds6,p6,q6,rfl,rfl,rfl,h6,r6⟩:=trodAll_cons r5
 obtain⟨v7,vs7,d7,ds7,p7,q7,rfl,rfl,rfl,h7,r7⟩:=trodAll_cons r6
 obtain⟨v8,vs8,d8,ds8,p8,q8,rfl,rfl,rfl,h8,r8⟩:=trodAll_cons r7
 obtain⟨v9,vs9,d9,ds9,p9,q9,rfl,rfl,rfl,h9,r9⟩:=trodAll_cons r8
 obtain⟨v10,aiU,d10,ajV,p10,q10,rfl,rfl,rfl,h10,r10⟩:=trodAll_cons r9
 obtain⟨rfl,rfl,rfl⟩:=trodAll_nil r10
 obtain rfl:args=#[v0,v1,v2,v3,v4,v5,v6,v7,v8,v9,v10]:=by cases args;simp_all
 obtain⟨rfl,rfl⟩:=trodVars_none hV
 clear hA0 hval0
 simp only[List.append_nil] at hW'
 have hlt0:∀x∈p0,x.block<W.heap.size:=fun x hx=>by simpa using hW'.lt x (by simp[hx])
 have k0:=h0
 obtain⟨s0,A0,c0,f0,B0,e0,rfl,hc0,hs0,hr0⟩:=YR (hval 0 25 v0 rfl rfl) k0 hlt0 (Gl hsz (j:=0) rfl rfl)
 have hlt1:∀x∈p1,x.block<W.heap.size:=fun x hx=>by simpa using hW'.lt x (by simp[hx])
 have k1:=h1
 obtain⟨s1,A1,c1,rfl,hl1,hc1,hr1⟩:=Vu (hval 1 26 v1 rfl rfl) k1 hlt1 (Gl hsz (j:=1) rfl rfl)
 have hlt2:∀x∈p2,x.block<W.heap.size:=fun x hx=>by simpa using hW'.lt x (by simp[hx])
 have k2:=h2
 obtain⟨a2,b2,rfl,wa2,wb2⟩:=PN (hval 2 28 v2 rfl rfl) k2
 have hlt3:∀x∈p3,x.block<W.heap.size:=fun x hx=>by simpa using hW'.lt x (by simp[hx])
 have k3:=h3
 obtain⟨a3,rfl,_,_,wa3⟩:=open_int Tryz.underlying3 (hval 3 3 v3 rfl rfl) k3
 have hlt4:∀x∈p4,x.block<W.heap.size:=fun x hx=>by simpa using hW'.lt x (by simp[hx])
 have k4:=h4
 obtain⟨a4,rfl,_,_,wa4⟩:=open_int Tryz.underlying3 (hval 4 3 v4 rfl rfl) k4
 have agw:∀x∈p5,x.block<W.heap.size:=fun x hx=>by simpa using hW'.lt x (by simp[hx])
 have k5:=h5
 obtain⟨a5,rfl,_,_,wa5⟩:=open_int Tryz.underlying3 (hval 5 3 v5 rfl rfl) k5
 have agv:∀x∈p6,x.block<W.heap.size:=fun x hx=>by simpa using hW'.lt x (by simp[hx])
 have k6:=h6
 obtain⟨a6,rfl,_,_,wa6⟩:=open_int Tryz.underlying3 (hval 6 3 v6 rfl rfl) k6
 have agu:∀x∈p7,x.block<W.heap.size:=fun x hx=>by simpa using hW'.lt x (by simp[hx])
 have k7:=h7
 obtain⟨a7,rfl,_,_,wa7⟩:=open_int Tryz.underlying3 (hval 7 3 v7 rfl rfl) k7
 have agt:∀x∈p8,x.block<W.heap.size:=fun x hx=>by simpa using hW'.lt x (by simp[hx])
 have k8:=h8
 obtain⟨a8,rfl,_,_,wa8⟩:=open_int Tryz.underlying3 (hval 8 3 v8 rfl rfl) k8
 have aev:∀x∈p9,x.block<W.heap.size:=fun x hx=>by simpa using hW'.lt x (by simp[hx])
 have k9:=h9
 obtain⟨a9,b9,rfl,wa9,wb9⟩:=PN (hval 9 28 v9 rfl rfl) k9
 have aew:∀x∈p10,x.block<W.heap.size:=fun x hx=>by simpa using hW'.lt x (by simp[hx])
 have k10:=h10
 obtain⟨a10,rfl,_,_,aiT⟩:=open_int Tryz.underlying3 (hval 10 3 v10 rfl rfl) k10
 have hargs:∀ (W':World),Below W.heap.size W W'->∀t v d p,DataW.Trod enc Tryz.prog W 0 (fun _=>true) true t v d p->(∀x∈p,x.block<W.heap.size)->Tryz.prog.readableRec t=true->t<Tryz.prog.types.size->DataW.Trod enc Tryz.prog W' 0 (fun b=>decide (b<W.heap.size)) true t v d p :=
  fun W' hn t v d p h hlt hr ht=>Below.trod laidOut hr ht h hn hlt
 refine (MX s0 f0 A0 B0 c0 e0 s1 A1 c1 (a2,b2) a3 a4 a5 a6 a7 a8 (a9,b9) a10 W hs0 hr0 hc0 hr1 hc1         ).mono fun e W' ⟨he,hg⟩=>?_
 subst he
 exact⟨_,rfl,_,_,_,[],_,[],hW',trodAll_cons_mk (shut_bool Tryz.underlying4 _) trodAll_mk0,(trodAll_cons_mk (hargs W' hg.below 25 _ d0 p0 h0 hlt0 (by kernel_rfl) (of_decide_eq_true (by kernel_rfl))) (trodAll_cons_mk (hargs W' hg.below 26 _ d1 p1 h1 hlt1 (by kernel_rfl) (of_decide_eq_true (by kernel_rfl))) (trodAll_cons_mk (hargs W' hg.below 28 _ d2 p2 h2 hlt2 (by kernel_rfl) (of_decide_eq_true (by kernel_rfl))) (trodAll_cons_mk (hargs W' hg.below 3 _ d3 p3 h3 hlt3 (by kernel_rfl) (of_decide_eq_true (by kernel_rfl))) (trodAll_cons_mk (hargs W' hg.below 3 _ d4 p4 h4 hlt4 (by kernel_rfl) (of_decide_eq_true (by kernel_rfl))) (trodAll_cons_mk (hargs W' hg.below 3 _ d5 p5 h5 agw (by kernel_rfl) (of_decide_eq_true (by kernel_rfl))) (trodAll_cons_mk (hargs W' hg.below 3 _ d6 p6 h6 agv (by kernel_rfl) (of_decide_eq_true (by kernel_rfl))) (trodAll_cons_mk (hargs W' hg.below 3 _ d7 p7 h7 agu (by kernel_rfl) (of_decide_eq_true (by kernel_rfl))) (trodAll_cons_mk (hargs W' hg.below 3 _ d8 p8 h8 agt (by kernel_rfl) (of_decide_eq_true (by kernel_rfl))) (trodAll_cons_mk (hargs W' hg.below 28 _ d9 p9 h9 aev (by kernel_rfl) (of_decide_eq_true (by kernel_rfl))) (trodAll_cons_mk (hargs W' hg.below 3 _ d10 p10 h10 aew (by kernel_rfl) (of_decide_eq_true (by kernel_rfl))) trodAll_mk0))))))))))),rfl,hg.below.frame _,fun h=>by cases h⟩
theorem proved:Rows.TopWaySaid :=
 OpenClaim.holds_of_wide 3 Tryz.f3 rfl rfl rfl rfl rfl rfl rfl ⟨rfl,rfl,rfl,rfl,rfl⟩ rfl rfl rfl rfl rfl (by kernel_rfl) Tryz.func3 (by kernel_rfl)
  (of_decide_eq_true (by kernel_rfl)) (by unfold Func.isWrapper;first|(rw[if_pos (by decide +kernel)];kernel_rfl)|(rw[if_neg (by decide +kernel)];exact⟨rfl,rfl⟩))
  (fun os started H enc _=>lifted os started H enc)
end Go.Proofs.YtlkgjmnjhifehaaGreat.topWay
