/- Channels in one goroutine, within a fenced walk: a region in which a value is sent, or received, without waiting. -/
import Derived.CallsIn
import Derived.Conc.LoneCalls
import Derived.Conc.LoneSelectN
set_option linter.unusedSimpArgs false
set_option linter.unusedVariables false
namespace Go.Proofs.YtlkgjmnjhifehaaGreat
open Go.RowKit Go.Conc
def lI (F:Fence)(n:Nat)(P:Program)(ops:Array Oper)(Q:Exit->Act->World->Prop)(l:List Nat)(a:Act)(w:World):Prop :=
 ∀ (b:Frame) (k:List Item) (cs:List Frame),b.roundOf=F.round->F.fn b.fn->F.room (cs.length+1+n) ->
  ∃e a' w',Q e a' w'/\ArrivesIn (Machine.fenced P F) P (lone (b.atR a (.inRegion ops l::k)) cs w) b k cs e a' w'
section
variable {F:Fence} {n:Nat} {P:Program} {ops:Array Oper} {Q:Exit->Act->World->Prop} {a:Act} {w w':World} {i:Nat} {rest:List Nat} {o:Oper}
theorem lI.of_wp {l:List Nat}(h:wpOpsIn F n P ops Q l a w):lI F n P ops Q l a w:=wp_opsIn l a w h
theorem lI.region {id:Nat}(h:lI F n P ops Q (List.range ops.size) a w):(Code.region id ops false).wpIn F n P Q a w :=
 fun b k cs hro hb hr=>let ⟨e,a',w',q,r⟩:=h b k cs hro hb hr;⟨e,a',w',q,.of_steps (.one (fenced_calm hb hr rfl) stepR_region) r⟩
theorem lI.value {v:Value}(ho:ops[i]?=some o)(hw:Region.wanted o (yielded ops a.tmps)=true)(hab:∀f,o.about P w a.eval=some f->F.fn f)
  (hr:(o.semAt F.round a.eval).run P w=.ok (.value v) w') (h:lI F n P ops Q rest (a.put o.dst v) w'):lI F n P ops Q (i::rest) a w:=by
 intro b k cs hro hb hrm
 have h0:(lone (b.atR a (.inRegion ops (i::rest)::k)) cs w).fenced P F:=fenced_oper hb hrm ho hab
 have hg:=stepGR_op (P:=P) (b:=b) (k:=k) (cs:=cs) (w:=w) (rest:=rest) ho hw
 rw[hro] at hg
 have hfin:=Frame.finish_atR b a ops i rest k v
 rw[ho] at hfin
 obtain⟨e,a',w'',hq,harr⟩:=h b k cs hro hb hrm
 refine⟨e,a',w'',hq,.of_steps (.one h0 (step_lone_go ?_)) harr⟩
 have KX:(b.atR a (.inRegion ops (i::rest)::k)).finish v=b.atR (a.put o.dst v) (.inRegion ops rest::k):=hfin
 rw[hg,<-KX]
 simp[stepG.apply,hr]
theorem lI.send {c cap s r:Nat}{buf:Array Value}{v z:Value}{tm:Bool}(ho:ops[i]?=some o)(hw:Region.wanted o (yielded ops a.tmps)=true)(hab:∀f,o.about P w a.eval=some f->F.fn f)
  (hr:(o.semAt F.round a.eval).run P w=.ok (.comm #[scase c v z] true .send) w) (hc:w.heap[c]?=some (.chan cap buf false s r tm)) (hroom:buf.size<cap)
  (h:lI F n P ops Q rest (a.put o.dst undef) (w.setChan c cap (buf.push v) false (s+1) r tm)):lI F n P ops Q (i::rest) a w:=by
 intro b k cs hro hb hrm
 have h0:(lone (b.atR a (.inRegion ops (i::rest)::k)) cs w).fenced P F:=fenced_oper hb hrm ho hab
 have hg:=stepGR_op (P:=P) (b:=b) (k:=k) (cs:=cs) (w:=w) (rest:=rest) ho hw
 rw[hro] at hg
 have hfin:=Frame.finish_atR b a ops i rest k undef
 rw[ho] at hfin
 have KX:(b.atR a (.inRegion ops (i::rest)::k)).finish undef=b.atR (a.put o.dst undef) (.inRegion ops rest::k):=hfin
 obtain⟨e,a',w'',hq,harr⟩:=h b k cs hro hb hrm
 have hst:∃es,stepG P true (G (b.atR a (.inRegion ops (i::rest)::k)) cs) w=.comm (G (b.atR a (.inRegion ops (i::rest)::k)) cs) #[scase c v z] true .send w es:=by
  rw[show stepG P true (G (b.atR a (.inRegion ops (i::rest)::k)) cs) w=_ from hg]
  simp[stepG.apply,hr,G]
  exact⟨_,rfl⟩
 obtain⟨es,hst⟩:=hst
 have hs:=step_lone_send_room hst hc hroom
 rw[KX] at hs
 exact⟨e,a',w'',hq,.of_steps (.one h0 hs) harr⟩
theorem lI.recv {c cap s r:Nat}{buf:Array Value}{z:Value}{tm closed:Bool}(ho:ops[i]?=some o)(hw:Region.wanted o (yielded ops a.tmps)=true)(hab:∀f,o.about P w a.eval=some f->F.fn f)
  (hr:(o.semAt F.round a.eval).run P w=.ok (.comm #[rcase c z] true (.recv false)) w) (hc:w.heap[c]?=some (.chan cap buf closed s r tm)) (hsome:0<buf.size)
  (h:lI F n P ops Q rest (a.put o.dst (buf.getD 0 undef)) (w.setChan c cap (buf.extract 1 buf.size) closed s (r+1) tm)):lI F n P ops Q (i::rest) a w:=by
 intro b k cs hro hb hrm
 have h0:(lone (b.atR a (.inRegion ops (i::rest)::k)) cs w).fenced P F:=fenced_oper hb hrm ho hab
 have hg:=stepGR_op (P:=P) (b:=b) (k:=k) (cs:=cs) (w:=w) (rest:=rest) ho hw
 rw[hro] at hg
 have hfin:=Frame.finish_atR b a ops i rest k (buf.getD 0 undef)
 rw[ho] at hfin
 have KX:(b.atR a (.inRegion ops (i::rest)::k)).finish (buf.getD 0 undef)=b.atR (a.put o.dst (buf.getD 0 undef)) (.inRegion ops rest::k):=hfin
 obtain⟨e,a',w'',hq,harr⟩:=h b k cs hro hb hrm
 have hst:∃es,stepG P true (G (b.atR a (.inRegion ops (i::rest)::k)) cs) w=.comm (G (b.atR a (.inRegion ops (i::rest)::k)) cs) #[rcase c z] true (.recv false) w es:=by
  rw[show stepG P true (G (b.atR a (.inRegion ops (i::rest)::k)) cs) w=_ from hg]
  simp[stepG.apply,hr,G]
  exact⟨_,rfl⟩
 obtain⟨es,hst⟩:=hst
 have hs:=step_lone_recv_buf false hst hc hsome
 simp only[got,Bool.false_eq_true,if_false] at hs
 rw[KX] at hs
 exact⟨e,a',w'',hq,.of_steps (.one h0 hs) harr⟩
end
theorem heap_setChan_ne (W:World)(c cap:Nat)(buf:Array Value)(cl:Bool)(s r:Nat)(tm:Bool)(b:Nat)(h:b≠c):(W.setChan c cap buf cl s r tm).heap[b]?=W.heap[b]?:=by
 simp[World.setChan,Array.getElem?_setIfInBounds_ne h.symm]
end Go.Proofs.YtlkgjmnjhifehaaGreat
