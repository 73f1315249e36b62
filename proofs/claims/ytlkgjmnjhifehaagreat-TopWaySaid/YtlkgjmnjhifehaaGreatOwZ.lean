/- Slices of integers that a call owns. -/
import Derived.Test.YtlkgjmnjhifehaaGreatItX
import Derived.OwnWalkIn
import Derived.Maps.OwnIn
set_option linter.unusedSimpArgs false
set_option linter.unusedVariables false
namespace Go.Proofs.YtlkgjmnjhifehaaGreat
open Go.RowKit Go.Sort
def encZ (x:Int):List Value:=[.int .i64 x]
def NtS (p:Prop):Prop:=p
theorem NtS.stop {p:Prop}(h:NtS p):p:=h
theorem NtS.go {p:Prop}(h:p):NtS p:=h
theorem zG (n:Int):(encZ n).length=1:=rfl
theorem af1:(Tryz.prog.info? 3).map (fun i=>(i.zero,i.size,i.bytes))=some (some (.int .i64 0),1,8):=by kernel_rfl
theorem Uu:∃i,Tryz.prog.info? 3=some i/\i.zero=some (.int .i64 0)/\i.size=1/\i.bytes=8:=by
 have h:=af1
 cases hi:Tryz.prog.info? 3 with
 | none=>rw[hi] at h;simp at h
 | some i =>
  rw[hi] at h
  simp at h
  exact⟨i,rfl,h.1,h.2.1,h.2.2⟩
def OZ (w:World)(base:Nat)(v:Value)(xs:List Int):Prop:=w.ownsRow base 3 1 v xs.length (xs.flatMap encZ)
theorem OZ.nil (w:World)(base:Nat):OZ w base (.slice none 0 0) []:=World.ownsRow_nil _ _ _ _
theorem OZ.grew {w w':World}{base:Nat}{v:Value}{xs:List Int}(h:OZ w base v xs)(g:Grew w w'):OZ w' base v xs:=World.ownsRow.kept h (g.grownBy none) (Decidable.em _)
theorem OZ.slice {w:World}{base:Nat}{v:Value}{xs:List Int}(h:OZ w base v xs):∃A c,v=.slice A xs.length c/\xs.length<=c:=by
 rcases h.2 with⟨rfl,h0⟩|⟨g,cap,cur,rfl,_,_,hn,_⟩
 ·rw[h0];exact⟨none,0,rfl,Nat.le_refl _⟩
 ·exact⟨_,_,rfl,hn⟩
theorem OZ.rd {w:World}{base:Nat}{v:Value}{xs:List Int}(h:OZ w base v xs):∃A c,v=.slice A xs.length c/\Rd w w.heap.size 1 A (xs.map encZ):=by
 obtain⟨A,c,h1,_,h2⟩:=Rd.iE (f:=encZ) zG h rfl
 exact⟨A,c,h1,h2⟩
theorem OZ.grown {W X X':World}{base:Nat}{v:Value}{xs:List Int}(h:Grew W X)(hown:OZ X base v xs)(hb:W.heap.size<=base)(hg:X.grownBy X' v.ownBlock):Grew W X' :=
 Grew.of_below (h.below.grown hg h.below.size fun q hq=>Nat.le_trans hb (World.ownsRow.lt hown q hq).1)
theorem Rd.ae4 {W:World}{b:Nat}{cs:Array Value}{T:TypeId}(ss:List Int)(h:W.heap[b]?=some (.cells cs T (0,0)))(hc:cs.toList=ss.flatMap encZ):Rd W W.heap.size 1 (some ⟨b,0,none⟩) (ss.map encZ):=by
 refine .inr ⟨b,0,rfl,au h,fun k x hx j u hu=>?_⟩
 rw[List.getElem?_map] at hx
 obtain⟨s,hs,rfl⟩:=Option.map_eq_some_iff.1 hx
 have hj:j<1:=by rw[<-zG s];exact (List.getElem?_eq_some_iff.1 hu).1
 rw[Nat.zero_add,ag h,<-Array.getElem?_toList,hc]
 exact (ig encZ 1 zG ss k j u hj).2 ⟨s,hs,hu⟩
theorem OZ.keep {X X':World}{base b:Nat}{v:Value}{xs:List Int}{cs:Array Value}{T:TypeId}{fr:Nat×Nat}(hown:OZ X base v xs)(hg:X.grownBy X' v.ownBlock)(hb:X.heap[b]?=some (.cells cs T fr))(hT:T≠3):X'.heap[b]?=some (.cells cs T fr):=by
 refine (hg.block b (au hb) (fun e=>hT ?_)).trans hb
 rcases hown.2 with⟨rfl,_⟩|⟨g,cap,cur,rfl,_,hg2,_⟩
 ·cases e
 ·injection e with e
  have e2:b=g:=e
  subst e2
  rw[hb] at hg2
  injection hg2 with hg2
  injection hg2
theorem OZ.of {w:World}{base g:Nat}{cs:Array Value}(xs:List Int)(h:w.heap[g]?=some (.cells cs 3 (0,0)))(hb:base<=g)(hc:cs.toList=xs.flatMap encZ)(hn:xs.length<=1000000000000){n:Nat}(hnn:n=xs.length):OZ w base (.slice (some ⟨g,0,none⟩) n n) xs:=by
 subst hnn
 have hl:(xs.flatMap encZ).length=xs.length:=by
  rw[List.length_flatMap]
  have:∀l:List Int,(l.map fun a=>(encZ a).length).sum=l.length:=by
   intro l
   induction l with
   | nil=>rfl
   | cons a l ih=>rw[List.map_cons,List.sum_cons,ih,zG,List.length_cons];omega
  exact this xs
 have hs:cs.size=xs.length:=by rw[<-hl,<-hc,Array.length_toList]
 exact⟨by rw[hl];omega,.inr ⟨g,xs.length,cs,rfl,hb,h,Nat.le_refl _,by simp only[maxLen];omega,by omega,by rw[hc,Nat.mul_one,<-hl,List.take_length]⟩⟩
section
variable {w:World} {ops:Array Oper} {rest:List Oper} {o:Oper} {a:Act} {Q:Exit->Act->World->Prop}
end
theorem xP {F:Fence}{nF:Nat}{w:World}{ops:Array Oper}{rest:List Oper}{o:Oper}{a:Act}{Q:Exit->Act->World->Prop}(hgd:o.guard=none)(s x:Operand)(ho:o.op=.call { callee:=.builtin .append,args:=#[s,x],argTypes:=#[39,39] })(base:Nat)(v:Value)(xs:List Int)(hs:a.eval s=v)(hown:OZ w base v xs)
  (b:Nat) (y:Int) (hx:a.eval x=.slice (some ⟨b,0,none⟩) 1 1) (hc:w.cell? ⟨b,0,none⟩=some (.int .i64 y)) (hl:xs.length<=1000000000) (hbase:base<=w.heap.size)
  (h:∀v' w',OZ w' base v' (xs++[y])->w.grownBy w' v.ownBlock->(v'.ownBlock=v.ownBlock\/v'.ownBlock=some w.heap.size)->wpListIn F nF Tryz.prog ops Q rest (a.put o.dst v') w'):wpListIn F nF Tryz.prog ops Q (o::rest) a w:=by
 obtain⟨i0,hi,hz0,hz1,hz2⟩:=Uu
 refine wpListIn_append_own_at w hgd s x 39 ho base 3 i0 _ 1 8 Tryz.underlying39 hi hz0 hz1 hz2 rfl (by omega) v xs.length (xs.flatMap encZ) hs hown ⟨b,0,none⟩ 1 1 (encZ y) hx rfl (fun j u hj=>?_) (fun u hu=>?_) (by simp only[maxLen];omega) (by omega) hbase fun v' w' h1 h2 _ h4=>?_
 ·rw[rV,Nat.zero_add]
  cases j with
  | zero =>
   have e:(Value.int .i64 y)=u:=by simpa[encZ] using hj
   rw[<-e]
   exact hc
  | succ j=>simp[encZ] at hj
 ·simp[encZ] at hu
  subst hu
  rfl
 ·refine h v' w' ?_ h2 h4
  unfold OZ
  rw[List.length_append,List.flatMap_append]
  simpa using h1
end Go.Proofs.YtlkgjmnjhifehaaGreat
