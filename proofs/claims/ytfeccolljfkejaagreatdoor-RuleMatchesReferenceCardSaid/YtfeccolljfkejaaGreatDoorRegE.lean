/- A region that draws its order, with operations whose values are settled (in any order) and effects (calls that hand back something new, slice literals, appends ..), whose orders are walked. No condition but a check on the region's text. -/
import Derived.Test.YtfeccolljfkejaaGreatDoorRegT
import Derived.Test.YtfeccolljfkejaaGreatDoorApp
set_option linter.unusedSimpArgs false
set_option linter.unusedVariables false
namespace Go.Proofs.YtfeccolljfkejaaGreatDoor.L
open Go.RowKit Go.Sort
section
variable {P : Program} {ops : Array Oper} {Q : Exit → Act → World → Prop}
theorem tail2 {l md tl : List Oper} {m n : Nat} (hlex : ∀ k o e, l.toArray[k]? = some o → e ∈ o.after → Region.binds .any e = true → e.on < k) (h2 : m ≤ n) (h3 : n ≤ l.length) (h4 : midB l.toArray m n = true) (hq : ∀ o ∈ tl, isQ o = true ∧ o.guard = none) (htl : l.drop n = tl) (hmd : (l.drop m).take (n - m) = md) (h6 : qasL (dumL n l).toArray l.length [] [] = true) :
  ∀ (fuel : Nat) (listed : Array Bool) (a : Act) (W : World), listed.size = l.toArray.size → (∀ j, listed.getD j false = true ↔ (j < m ∧ j < l.toArray.size)) → l.toArray.size - m ≤ fuel →
   wpList P l.toArray (Q2 Q fun a2 W2 => wpSteady P l.toArray W2 (fun af2 => ∀ W3, Grew W2 W3 → wpList P l.toArray Q [] af2 W3) tl a2) md a W → wpAny P .any l.toArray Q fuel listed a W := by
 intro fuel listed a W hs hl hf hw
 refine any_mid (m := m) (n := n) hlex h4 (by simpa using h3) ?_ md m listed a W fuel (Nat.le_refl _) (by rw [← hmd, List.length_take, List.length_drop]; omega) ?_ hs hl hf hw
 ·intro fuel listed a W hs hl hf hw
  have hs' : listed.size = l.length := by simpa using hs
  refine any_dum h3 (fun o ho => (hq o (by rw [← htl]; exact ho)).2) fuel listed a W hs' (fun j hj => (hl j).2 ⟨hj, by simp; omega⟩) ?_
  have hst := any_start (P := P) (Q := Q) (a0 := a) (w0 := W) (l := dumL n l) (dumL n l).length [] [] (by rw [dumL_len h3, h6]; simp) rfl (fun x hx => by cases hx) (fun x hx => by cases hx) (fun a W => Q .normal a W) ?_ ?_ (fuel + n) (by rw [List.size_toArray, dumL_len h3]; simp at hf; omega)
  ·obtain ⟨listed', hs2, hl2, h9⟩ := any_dums h3 n 0 fuel _ a W (by omega) (by simp [dumL_len h3]) (fun j => by
    by_cases hj : j < (dumL n l).length <;> simp [hj]) hst
   have : listed' = listed := arr_ext (by omega) fun j => by
    rw [hl2 j, hl j]
    simp
    omega
   rw [← this]
   exact h9
  ·intro f lst a W hs hl _ hw
   have hr : Region.ready .any (dumL n l).toArray lst = [] := by
    cases hc : Region.ready .any (dumL n l).toArray lst with
    | nil => rfl
    | cons i rest =>
     have hi : i ∈ Region.ready .any (dumL n l).toArray lst := by rw [hc]; simp
     have h1 := ready_lt hi
     have h2 := (hl i).2 ⟨by simpa using h1.1, h1.1⟩
     have hs' : i < lst.size := by rw [hs]; exact h1.1
     have h3 := h1.2
     simp [hs'] at h2 h3
     rw [h2] at h3
     cases h3
   cases f with
   | zero => exact ⟨hr, hw⟩
   | succ f => exact ⟨fun _ => hw, fun i hi => by rw [hr] at hi; cases hi⟩
  ·have e : ((dumL n l).take (dumL n l).length).filter isQ = List.replicate n dummy ++ tl := by
    rw [List.take_length]
    unfold dumL
    rw [List.filter_append, htl, List.filter_eq_self.2 (fun o ho => (hq o ho).1), List.filter_eq_self.2 (fun o ho => by rw [List.eq_of_mem_replicate ho]; rfl)]
   rw [e]
   refine steady_dums (steady_dum (l := l) tl a (fun o ho => (hq o ho).2) ?_) n
   refine steady_imp tl a hw fun af h => ?_
   refine ⟨(fun x hx => by cases hx), (fun x hx => by cases hx), fun ps qs W' hg hf hb => ?_⟩
   exact h W' hg
 ·intro i hi
  rw [← hmd, List.length_take, List.length_drop] at hi
  rw [← hmd, List.getElem?_take_of_lt (by omega), List.getElem?_drop]
  simp
end
end Go.Proofs.YtfeccolljfkejaaGreatDoor.L
namespace Go.Proofs.YtfeccolljfkejaaGreatDoor.E
open Go.RowKit Go.Sort
section
variable {P : Program} {ops : Array Oper} {Q : Exit → Act → World → Prop} {w0 : World} {a0 : Act}
def pick : List Bool → List Oper → List Oper
 | true :: bs, o :: os => o :: pick bs os
 | false :: bs, _ :: os => pick bs os
 | _, _ => []
/-- What an effect gives: what lies below block N is as it was. -/
def effUpon (P : Program) (N : Nat) (W : World) (K : Value → World → Prop) : Result Next → Prop
 | .ok (.value u) w' => Below N W w' ∧ K u w'
 | .ok .skip w' => Below N W w' ∧ K undef w'
 | .ok (.enter f args) w' => w' = W ∧ Calls P f args w' fun e w'' => ∃ u, e = .returned u ∧ Below N W w'' ∧ K u w''
 | _ => False
/-- The effects es, in whatever order they allow; between them the world may grow. -/
def wpE (P : Program) (ops : Array Oper) (N : Nat) (R : Act → World → Prop) : Nat → List Nat → Act → World → Prop
 | 0, es, a, W => es = [] ∧ ∀ W', Grew W W' → R a W'
 | f + 1, es, a, W => (es = [] → ∀ W', Grew W W' → R a W') ∧ ∀ e ∈ es, (∀ e' ∈ es, befT ops ops.size e e' = false) → ∀ o, ops[e]? = some o → ∀ W', Grew W W' →
   effUpon P N W' (fun u W'' => wpE P ops N R f (es.filter (· != e)) (a.put o.dst u) W'') ((execOp a.eval o).run P W')
theorem wpE_grew {N : Nat} {R : Act → World → Prop} : ∀ {f : Nat} {es : List Nat} {a : Act} {W W' : World}, wpE P ops N R f es a W → Grew W W' → wpE P ops N R f es a W'
 | 0, _, _, _, _, h, hg => ⟨h.1, fun W'' hg' => h.2 W'' (hg.trans hg')⟩
 | _ + 1, _, _, _, _, h, hg => ⟨fun he W'' hg' => h.1 he W'' (hg.trans hg'), fun e he hb o ho W'' hg' => h.2 e he hb o ho W'' (hg.trans hg')⟩
theorem wpE_end {N : Nat} {R : Act → World → Prop} {f : Nat} {a : Act} {W : World} (h : wpE P ops N R f [] a W) : R a W := by
 cases f with
 | zero => exact h.2 W (Grew.refl W)
 | succ f => exact h.1 rfl W (Grew.refl W)
def sv (B : List Bool) (v : Nat → Value) (k : Nat) : Nat → Option Value := fun j => if j < k ∧ B.getD j false = true then some (v j) else none
theorem split (hD : Distinct ops) {R : Act → Prop} {B : List Bool} : ∀ (bs : List Bool) (l : List Oper) (k : Nat) (v : Nat → Value), bs.length = l.length → (∀ i, i < bs.length → bs.getD i false = B.getD (k + i) false) → (∀ i, i < l.length → l[i]? = ops[k + i]?) →
  wpSteady P ops w0 R (pick bs l) (actOf ops a0 (sv B v k)) →
  ∃ v' : Nat → Value, (∀ j, j < k → v' j = v j) ∧ (∀ i o, l[i]? = some o → B.getD (k + i) false = true → YS P ops w0 o (v' (k + i)) (actOf ops a0 (sv B v' (k + i)))) ∧ R (actOf ops a0 (sv B v' (k + l.length)))
 | [], [], k, v, _, _, _, h => ⟨v, fun _ _ => rfl, fun i o h => by simp at h, h⟩
 | [], _ :: _, _, _, hl, _, _, _ => by simp at hl
 | _ :: _, [], _, _, hl, _, _, _ => by simp at hl
 | b :: bs, o :: l, k, v, hlen, hB, hl, h => by
  have h0 : ops[k]? = some o := by simpa using (hl 0 (by simp)).symm
  have hk : k < ops.size := (Array.getElem?_eq_some_iff.1 h0).1
  have hb0 : B.getD k false = b := by simpa using (hB 0 (by simp)).symm
  have hl' : ∀ i, i < l.length → l[i]? = ops[k + 1 + i]? := fun i hi => by have := hl (i + 1) (by simpa using hi); simpa [Nat.add_assoc, Nat.add_comm 1 i] using this
  have hB' : ∀ i, i < bs.length → bs.getD i false = B.getD (k + 1 + i) false := fun i hi => by have := hB (i + 1) (by simpa using hi); simpa [Nat.add_assoc, Nat.add_comm 1 i] using this
  have hlen' : bs.length = l.length := by simpa using hlen
  cases b with
  | true =>
   unfold pick at h
   have key : ∃ u, YS P ops w0 o u (actOf ops a0 (sv B v k)) ∧ wpSteady P ops w0 R (pick bs l) ((actOf ops a0 (sv B v k)).put o.dst u) := by
    unfold wpSteady at h
    by_cases hw : Region.wanted o (yielded ops (actOf ops a0 (sv B v k)).tmps) = true
    ·rw [if_pos hw] at h
     obtain ⟨u, h1, h2⟩ := h
     exact ⟨u, .inl ⟨hw, h1⟩, h2⟩
    ·rw [if_neg hw] at h
     exact ⟨undef, .inr ⟨by simpa using hw, rfl⟩, h⟩
   obtain ⟨u, hy, h2⟩ := key
   have hfun : sv B (fun j => if j = k then u else v j) (k + 1) = upd (sv B v k) k u := by
    funext j
    unfold sv upd
    by_cases hj : j = k
    ·subst hj
     simp only [hb0, if_true, Nat.lt_succ_self, true_and]
    ·have e : (j < k + 1) ↔ (j < k) := by omega
     simp only [if_neg hj, e]
   have hdst : dstOf ops k = o.dst := by simp [dstOf, h0]
   rw [← hdst, ← actOf_upd hD (by simp [sv]) hk, ← hfun] at h2
   obtain ⟨v', g1, g2, g3⟩ := split hD bs l (k + 1) _ hlen' hB' hl' h2
   have hle : ∀ j, j < k → v' j = v j := fun j hj => by rw [g1 j (by omega), if_neg (by omega)]
   have hu : v' k = u := by rw [g1 k (by omega), if_pos rfl]
   refine ⟨v', hle, ?_, by rw [List.length_cons, show k + (l.length + 1) = k + 1 + l.length from by omega]; exact g3⟩
   intro i o' hi hq'
   cases i with
   | zero =>
    simp only [List.getElem?_cons_zero, Option.some.injEq] at hi
    subst hi
    have e : sv B v' (k + 0) = sv B v k := by
     funext j
     unfold sv
     by_cases hj : j < k
     ·simp only [Nat.add_zero, hle j hj]
     ·simp only [Nat.add_zero, hj, false_and, if_false]
    rw [e, Nat.add_zero, hu]
    exact hy
   | succ i =>
    simp only [List.getElem?_cons_succ] at hi
    have := g2 i o' hi (by rw [show k + 1 + i = k + (i + 1) from by omega]; exact hq')
    rw [show k + 1 + i = k + (i + 1) from by omega] at this
    exact this
  | false =>
   unfold pick at h
   have hfun : sv B v (k + 1) = sv B v k := by
    funext j
    unfold sv
    by_cases hj : j = k
    ·subst hj
     simp only [hb0, Bool.false_eq_true, and_false, if_false]
    ·have e : (j < k + 1) ↔ (j < k) := by omega
     simp only [e]
   rw [← hfun] at h
   obtain ⟨v', g1, g2, g3⟩ := split hD bs l (k + 1) v hlen' hB' hl' h
   refine ⟨v', fun j hj => g1 j (by omega), ?_, by rw [List.length_cons, show k + (l.length + 1) = k + 1 + l.length from by omega]; exact g3⟩
   intro i o' hi hq'
   cases i with
   | zero => rw [Nat.add_zero, hb0] at hq'; cases hq'
   | succ i =>
    simp only [List.getElem?_cons_succ] at hi
    have := g2 i o' hi (by rw [show k + 1 + i = k + (i + 1) from by omega]; exact hq')
    rw [show k + 1 + i = k + (i + 1) from by omega] at this
    exact this
def opOkE (ops : Array Oper) (m : Nat) (B : List Bool) (k : Nat) : Bool := match ops[k]? with
 | some o => (o.after.all fun e => !Region.binds .any e || decide (e.on < k)) &&
   ((List.range ops.size).all fun j => j == k || (match o.dst, dstOf ops j with | some d, some e => d != e | _, _ => true)) &&
   (if k < m then (if B.getD k false = true then (o.looksAt ops).all fun t => (List.range ops.size).all fun j => dstOf ops j != some t || ((bef ops k j && B.getD j false) || bef ops j k)
    else o.guard.isNone && (o.looksAt ops).all fun t => (List.range ops.size).all fun j => dstOf ops j != some t || (bef ops k j || (bef ops j k && !B.getD j false)))
   else (List.range m).all fun j => befT ops ops.size k j)
 | none => true
def chkE (ops : Array Oper) (m : Nat) (B : List Bool) : Bool := Region.noSelect ops && (List.range ops.size).all (opOkE ops m B)
structure CE (ops : Array Oper) (m : Nat) (B : List Bool) : Prop where
 noSel : ∀ (j : Nat) (o : Oper) cs b, ops[j]? = some o → o.op ≠ .select cs b
 lex : ∀ k o e, ops[k]? = some o → e ∈ o.after → Region.binds .any e = true → e.on < k
 dis : Distinct ops
 q : ∀ k o, k < m → ops[k]? = some o → B.getD k false = true → ∀ t, t ∈ o.looksAt ops → ∀ j, j < ops.size → dstOf ops j = some t → (bef ops k j = true ∧ B.getD j false = true) ∨ bef ops j k = true
 e : ∀ k o, k < m → ops[k]? = some o → B.getD k false = false → o.guard = none ∧ ∀ t, t ∈ o.looksAt ops → ∀ j, j < ops.size → dstOf ops j = some t → bef ops k j = true ∨ (bef ops j k = true ∧ B.getD j false = false)
 tl : ∀ k o, m ≤ k → ops[k]? = some o → ∀ j, j < m → ∃ f, befT ops f k j = true
theorem ce_of {m : Nat} {B : List Bool} (h : chkE ops m B = true) : CE ops m B := by
 simp only [chkE, Bool.and_eq_true] at h
 obtain ⟨h1, h2⟩ := h
 have hop : ∀ k o, ops[k]? = some o → opOkE ops m B k = true := fun k o ho => List.all_eq_true.1 h2 k (List.mem_range.2 (Array.getElem?_eq_some_iff.1 ho).1)
 refine ⟨fun j o cs b ho => Region.noSelect_spec h1 j o cs b ho, ?_, ?_, ?_, ?_, ?_⟩
 ·intro k o e ho he hb
  have := hop k o ho
  simp only [opOkE, ho, Bool.and_eq_true] at this
  have := Array.all_eq_true_iff_forall_mem.1 this.1.1 e he
  simpa [hb] using this
 ·intro i j hij t hi hj
  cases ho : ops[i]? with
  | none => simp [dstOf, ho] at hi
  | some o =>
   have := hop i o ho
   simp only [opOkE, ho, Bool.and_eq_true] at this
   have hjs : j < ops.size := by
    rcases Nat.lt_or_ge j ops.size with h | h
    ·exact h
    ·simp [dstOf, Array.getElem?_eq_none h] at hj
   have := List.all_eq_true.1 this.1.2 j (List.mem_range.2 hjs)
   have hd : o.dst = some t := by simpa [dstOf, ho] using hi
   simp [hd, hj] at this
   exact hij this.symm
 ·intro k o hkm ho hq t ht j hj hd
  have := hop k o ho
  simp only [opOkE, ho, Bool.and_eq_true, if_pos hkm, if_pos hq] at this
  have := List.all_eq_true.1 (List.all_eq_true.1 this.2 t ht) j (List.mem_range.2 hj)
  simpa [hd] using this
 ·intro k o hkm ho hq
  have := hop k o ho
  have hq' : ¬ B.getD k false = true := by rw [hq]; simp
  simp only [opOkE, ho, Bool.and_eq_true, if_pos hkm, if_neg hq'] at this
  refine ⟨by simpa using this.2.1, fun t ht j hj hd => ?_⟩
  have := List.all_eq_true.1 (List.all_eq_true.1 this.2.2 t ht) j (List.mem_range.2 hj)
  simpa [hd] using this
 ·intro k o hmk ho j hj
  have := hop k o ho
  simp only [opOkE, ho, Bool.and_eq_true, if_neg (Nat.not_lt.2 hmk)] at this
  exact ⟨_, List.all_eq_true.1 this.2 j (List.mem_range.2 hj)⟩
variable {m : Nat} {B : List Bool} {v : Nat → Value} {R : Act → World → Prop}
theorem bef_ltE (C : CE ops m B) {i j : Nat} (hb : bef ops i j = true) : j < i := by
 unfold bef at hb
 cases ho : ops[i]? with
 | none => rw [ho] at hb; cases hb
 | some o =>
  rw [ho] at hb
  simp only [Array.any_eq_true'] at hb
  obtain ⟨e, he, hb⟩ := hb
  rw [Bool.and_eq_true] at hb
  have h6 := C.lex i o e ho he hb.1
  have h7 : e.on = j := by simpa using hb.2
  omega
def full (B : List Bool) (v : Nat → Value) (m : Nat) (vals : Nat → Option Value) : Nat → Option Value := fun j => if j < m ∧ B.getD j false = true then some (v j) else vals j
def rem (B : List Bool) (m : Nat) (listed : Array Bool) : List Nat := (List.range m).filter fun j => !B.getD j false && !listed.getD j false
structure J (P : Program) (ops : Array Oper) (m : Nat) (B : List Bool) (w0 : World) (a0 : Act) (v : Nat → Value) (R : Act → World → Prop) (vals : Nat → Option Value) (listed : Array Bool) (a : Act) (W : World) : Prop where
 size : listed.size = ops.size
 main : ∀ j, m ≤ j → listed.getD j false = false
 act : a = actOf ops a0 vals
 off : ∀ j, listed.getD j false = false → vals j = none
 on : ∀ j, j < m → B.getD j false = true → listed.getD j false = true → vals j = some (v j)
 grew : Grew w0 W
 down : ∀ k j, listed.getD k false = true → bef ops k j = true → listed.getD j false = true
 eff : ∃ f, wpE P ops w0.heap.size R f (rem B m listed) (actOf ops a0 (full B v m vals)) W
theorem getD_set_trueE {listed : Array Bool} {i j : Nat} (h : listed.getD j false = true) : (listed.setIfInBounds i true).getD j false = true := by
 by_cases hij : i = j
 ·subst hij
  have : i < listed.size := by
   rcases Nat.lt_or_ge i listed.size with h1 | h1
   ·exact h1
   ·simp [h1] at h
  exact getD_set_self this
 ·rw [getD_set_other hij]
  exact h
theorem any_e (C : CE ops m B) (hmn : m ≤ ops.size) (hR : ∀ fuel listed a W, listed.size = ops.size → (∀ j, listed.getD j false = true ↔ (j < m ∧ j < ops.size)) → ops.size - m ≤ fuel → R a W → wpAny P .any ops Q fuel listed a W)
  (hv : ∀ i o, i < m → ops[i]? = some o → B.getD i false = true → YS P ops w0 o (v i) (actOf ops a0 (sv B v i))) :
  ∀ (fuel : Nat) (vals : Nat → Option Value) (listed : Array Bool) (a : Act) (W : World), J P ops m B w0 a0 v R vals listed a W → cnt (fun j => listed.getD j false) ops.size ≤ fuel → wpAny P .any ops Q fuel listed a W := by
 have hfin : ∀ (fuel : Nat) (vals : Nat → Option Value) (listed : Array Bool) (a : Act) (W : World), J P ops m B w0 a0 v R vals listed a W → cnt (fun j => listed.getD j false) ops.size ≤ fuel →
   (∀ j, j < m → listed.getD j false = true) → wpAny P .any ops Q fuel listed a W := by
  intro fuel vals listed a W I hc hall
  have hlist : ∀ j, listed.getD j false = true ↔ (j < m ∧ j < ops.size) := fun j => by
   by_cases hj : j < m
   ·simp only [hall j hj, hj, true_and, true_iff]
    omega
   ·have := I.main j (by omega)
    rw [this]
    simp [hj]
  refine hR fuel listed a W I.size hlist ?_ ?_
  ·have : ∀ n, m ≤ n → cnt (fun j => listed.getD j false) n = n - m := by
    intro n
    induction n with
    | zero => intro h; simp [cnt]
    | succ n ih =>
     intro h
     unfold cnt
     by_cases hn : m ≤ n
     ·rw [ih hn, I.main n hn]
      simp
      omega
     ·have hmn : m = n + 1 := by omega
      rw [if_pos (hall n (by omega))]
      have hz : ∀ q, q ≤ n → cnt (fun j => listed.getD j false) q = 0 := by
       intro q
       induction q with
       | zero => intro _; rfl
       | succ q ihq => intro hq; unfold cnt; rw [ihq (by omega), if_pos (hall q (by omega))]
      rw [hz n (Nat.le_refl _)]
      omega
   rw [this _ hmn] at hc
   exact hc
  ·obtain ⟨f, hf⟩ := I.eff
   have hr : rem B m listed = [] := by
    unfold rem
    rw [List.filter_eq_nil_iff]
    intro j hj
    rw [hall j (List.mem_range.1 hj)]
    simp
   rw [hr] at hf
   have := wpE_end hf
   have e : full B v m vals = vals := by
    funext j
    unfold full
    split
    ·rename_i h
     exact (I.on j h.1 h.2 (hall j h.1)).symm
    ·rfl
   rw [e, ← I.act] at this
   exact this
 intro fuel
 induction fuel with
 | zero =>
  intro vals listed a W I hc
  have hall := cnt_zero _ (by omega : cnt (fun j => listed.getD j false) ops.size = 0)
  exact hfin 0 vals listed a W I hc fun j hj => hall j (by omega)
 | succ fuel ih =>
  intro vals listed a W I hc
  by_cases hall : ∀ j, j < m → listed.getD j false = true
  ·exact hfin _ vals listed a W I hc hall
  have hmain : ∀ i, i ∈ Region.ready .any ops listed → i < m := fun i hr => by
   rcases Nat.lt_or_ge i m with h | h
   ·exact h
   ·exact (hall fun j hj => (C.tl i _ h (Array.getElem?_eq_getElem (ready_lt hr).1) j hj).elim fun f hf => befT_listed I.down f (.inl hr) hf).elim
  refine ⟨fun h0 => ?_, fun i hr => ?_⟩
  ·exfalso
   refine hall fun j => ?_
   induction j using Nat.strongRecOn with
   | ind k ihk =>
    intro hk
    by_cases hl : listed.getD k false = true
    ·exact hl
    ·exfalso
     have hkn : k < ops.size := by omega
     have : k ∈ Region.ready .any ops listed := by
      refine mem_ready.2 ⟨?_, ops[k], Array.getElem?_eq_getElem hkn, fun e he hb => ?_⟩
      ·have hs : k < listed.size := by rw [I.size]; exact hkn
       simp [hs] at hl ⊢
       exact hl
      ·have hlt := C.lex k _ e (Array.getElem?_eq_getElem hkn) he hb
       exact ihk e.on hlt (by omega)
     rw [h0] at this
     cases this
  have him := hmain i hr
  have hlt := (ready_lt hr).1
  have his : i < listed.size := by rw [I.size]; exact hlt
  have hoff : listed.getD i false = false := by
   have := (ready_lt hr).2
   simp [his] at this ⊢
   exact this
  have hcnt : cnt (fun j => (listed.setIfInBounds i true).getD j false) ops.size ≤ fuel := by
   have := cnt_set (f := fun j => listed.getD j false) (g := fun j => (listed.setIfInBounds i true).getD j false) hoff (getD_set_self his) (fun j hj => getD_set_other (fun e => hj e.symm)) ops.size hlt
   omega
  have ho : ops[i]? = some ops[i] := Array.getElem?_eq_getElem hlt
  generalize ops[i] = o at ho
  have hdst : dstOf ops i = o.dst := by simp [dstOf, ho]
  have base : ∀ (u : Value) (W' : World), (B.getD i false = true → u = v i) → Grew w0 W' → (∃ f, wpE P ops w0.heap.size R f (rem B m (listed.setIfInBounds i true)) (actOf ops a0 (full B v m (upd vals i u))) W') →
    wpAny P .any ops Q fuel (listed.setIfInBounds i true) (a.put o.dst u) W' := fun u W' hon hg heff => by
   refine ih (upd vals i u) _ _ _ ⟨by simp [I.size], fun j hj => by rw [getD_set_other (by omega)]; exact I.main j hj, ?_, ?_, ?_, hg, ?_, heff⟩ hcnt
   ·rw [actOf_upd C.dis (I.off i hoff) hlt, hdst, I.act]
   ·intro j hj
    by_cases hji : i = j
    ·subst hji
     rw [getD_set_self his] at hj
     cases hj
    ·rw [getD_set_other hji] at hj
     unfold upd
     rw [if_neg (fun e => hji e.symm)]
     exact I.off j hj
   ·intro j hj hq hl
    by_cases hji : i = j
    ·subst hji
     unfold upd
     rw [if_pos rfl, hon hq]
    ·rw [getD_set_other hji] at hl
     unfold upd
     rw [if_neg (fun e => hji e.symm)]
     exact I.on j hj hq hl
   ·intro k j hk hb
    by_cases hki : i = k
    ·subst hki
     exact getD_set_trueE (bef_of_ready hr hb)
    ·rw [getD_set_other hki] at hk
     exact getD_set_trueE (I.down k j hk hb)
  unfold wpOp
  simp only [ho]
  cases hq : B.getD i false with
  | true =>
   have hag : ∀ t, t ∈ o.looksAt ops → ∀ j, j < ops.size → dstOf ops j = some t → vals j = sv B v i j := by
    intro t ht j hj hd
    rcases C.q i o him ho hq t ht j hj hd with ⟨hb, hqj⟩ | hb
    ·have hji := bef_ltE C hb
     rw [I.on j (by omega) hqj (bef_of_ready hr hb)]
     simp only [sv, hji, hqj, true_and, if_true]
    ·have hoffj : listed.getD j false = false := by
      cases hc : listed.getD j false with
      | false => rfl
      | true => have h1 := I.down j i hc hb; rw [hoff] at h1; cases h1
     rw [I.off j hoffj]
     have := bef_ltE C hb
     simp only [sv, show ¬ j < i by omega, false_and, if_false]
   have hex : execOp a.eval o = execOp (actOf ops a0 (sv B v i)).eval o := by rw [I.act]; exact actOf_exec (C.noSel i o · · ho) hag
   have hwa : Region.wanted o (yielded ops a.tmps) = Region.wanted o (yielded ops (actOf ops a0 (sv B v i)).tmps) := by rw [I.act]; exact actOf_wanted hag
   have step : ∀ W', Grew W W' → wpAny P .any ops Q fuel (listed.setIfInBounds i true) (a.put o.dst (v i)) W' := by
    intro W' hg
    refine base (v i) W' (fun _ => rfl) (I.grew.trans hg) ?_
    obtain ⟨f, hf⟩ := I.eff
    have e1 : rem B m (listed.setIfInBounds i true) = rem B m listed := by
     unfold rem
     refine List.filter_congr fun j _ => ?_
     by_cases hij : i = j
     ·subst hij
      rw [hq]
      rfl
     ·rw [getD_set_other hij]
    have e2 : full B v m (upd vals i (v i)) = full B v m vals := by
     funext j
     unfold full upd
     by_cases hji : j = i
     ·subst hji
      simp only [him, hq, true_and, if_true]
     ·simp only [if_neg hji]
    rw [e1, e2]
    exact ⟨f, wpE_grew hf hg⟩
   rw [hwa]
   rcases hv i o him ho hq with ⟨hw, hst⟩ | ⟨hw, hu⟩
   ·rw [if_pos hw]
    left
    obtain ⟨p, hp⟩ := I.grew
    have hs := hst p
    rw [← hp, ← hex] at hs
    unfold Oper.wp
    generalize (execOp a.eval o).run P W = r at hs
    cases r with
    | ok n w' =>
     cases n <;> simp only [steadyUpon] at hs <;> simp only [Oper.upon]
     case value u => obtain ⟨rfl, rfl⟩ := hs; exact step _ (Grew.refl _)
     case skip => obtain ⟨rfl, e⟩ := hs; rw [← e]; exact step _ (Grew.refl _)
     case enter f args =>
      obtain ⟨rfl, hc⟩ := hs
      exact hc.mono fun e w'' ⟨he, hg⟩ => by subst he; exact step _ hg
    | halt x w' => simp only [steadyUpon] at hs
   ·rw [if_neg (by rw [hw]; simp), ← hu]
    exact step _ (Grew.refl _)
  | false =>
   obtain ⟨hgd, hlk⟩ := C.e i o him ho hq
   have hag : ∀ t, t ∈ o.looksAt ops → ∀ j, j < ops.size → dstOf ops j = some t → vals j = full B v m vals j := by
    intro t ht j hj hd
    unfold full
    rcases hlk t ht j hj hd with hb | ⟨_, hqj⟩
    ·split
     ·rename_i h
      exact I.on j h.1 h.2 (bef_of_ready hr hb)
     ·rfl
    ·rw [if_neg (by rw [hqj]; simp)]
   have hex : execOp a.eval o = execOp (actOf ops a0 (full B v m vals)).eval o := by rw [I.act]; exact actOf_exec (C.noSel i o · · ho) hag
   have hw : Region.wanted o (yielded ops a.tmps) = true := by simp [Region.wanted, hgd]
   rw [if_pos hw]
   left
   obtain ⟨f, hf⟩ := I.eff
   have hmem : i ∈ rem B m listed := List.mem_filter.2 ⟨List.mem_range.2 him, by rw [hq, hoff]; rfl⟩
   obtain ⟨f, rfl⟩ : ∃ g, f = g + 1 := by
    cases f with
    | zero => have := hf.1; rw [this] at hmem; cases hmem
    | succ g => exact ⟨g, rfl⟩
   have hbe : ∀ e' ∈ rem B m listed, befT ops ops.size i e' = false := fun e' he' => by
    cases hc : befT ops ops.size i e' with
    | false => rfl
    | true =>
     have h1 := befT_listed I.down _ (.inl hr) hc
     have h2 := (List.mem_filter.1 he').2
     rw [h1] at h2
     simp at h2
   have hs := hf.2 i hmem hbe o ho W (Grew.refl W)
   rw [← hex] at hs
   have e1 : rem B m (listed.setIfInBounds i true) = (rem B m listed).filter (· != i) := by
    unfold rem
    rw [List.filter_filter]
    refine List.filter_congr fun j _ => ?_
    by_cases hij : i = j
    ·subst hij
     rw [getD_set_self his]
     simp
    ·rw [getD_set_other hij]
     have : (j != i) = true := by simpa using fun e => hij e.symm
     rw [this, Bool.true_and]
   have e2 : ∀ u, full B v m (upd vals i u) = upd (full B v m vals) i u := fun u => by
    funext j
    unfold full upd
    by_cases hji : j = i
    ·subst hji
     simp only [hq, Bool.false_eq_true, and_false, if_false, if_true]
    ·simp only [if_neg hji]
   have e3 : full B v m vals i = none := by
    unfold full
    rw [if_neg (by rw [hq]; simp)]
    exact I.off i hoff
   have step : ∀ u W', Below w0.heap.size W W' → wpE P ops w0.heap.size R f ((rem B m listed).filter (· != i)) ((actOf ops a0 (full B v m vals)).put o.dst u) W' → wpAny P .any ops Q fuel (listed.setIfInBounds i true) (a.put o.dst u) W' := by
    intro u W' hb hk
    refine base u W' (fun h => by rw [hq] at h; cases h) (Grew.of_below (I.grew.below.trans hb)) ⟨f, ?_⟩
    rw [e1, e2, actOf_upd C.dis e3 hlt, hdst]
    exact hk
   unfold Oper.wp
   generalize (execOp a.eval o).run P W = r at hs
   cases r with
   | ok n w' =>
    cases n <;> simp only [effUpon] at hs <;> simp only [Oper.upon]
    case value u => exact step _ _ hs.1 hs.2
    case skip => exact step _ _ hs.1 hs.2
    case enter f args =>
     obtain ⟨rfl, hc⟩ := hs
     exact hc.mono fun e w'' ⟨u, he, hb, hk⟩ => by subst he; exact step u w'' hb hk
   | halt x w' => simp only [effUpon] at hs
theorem eff_start {l qs : List Oper} (B : List Bool) (hB : (chkE l.toArray B.length B && decide (B.length ≤ l.length)) = true) (hqs : pick B (l.take B.length) = qs) (es : List Nat) (hes : rem B B.length #[] = es)
  (R : Act → World → Prop) (hR : ∀ fuel listed a W, listed.size = l.toArray.size → (∀ j, listed.getD j false = true ↔ (j < B.length ∧ j < l.toArray.size)) → l.toArray.size - B.length ≤ fuel → R a W → wpAny P .any l.toArray Q fuel listed a W)
  (h : wpSteady P l.toArray w0 (fun af => wpE P l.toArray w0.heap.size R es.length es af w0) qs a0) (fuel : Nat) (hfu : l.toArray.size ≤ fuel) :
  wpAny P .any l.toArray Q fuel (Array.replicate l.toArray.size false) a0 w0 := by
 rw [Bool.and_eq_true, decide_eq_true_eq] at hB
 have C := ce_of hB.1
 have hml := hB.2
 subst hqs
 have hnone : ∀ (ks : List Nat) (a : Act), putsOf l.toArray (fun _ => none) ks a = a := by
  intro ks
  induction ks with
  | nil => intro a; rfl
  | cons k ks ih => intro a; unfold putsOf; exact ih a
 have es0 : sv B (fun _ => undef) 0 = fun _ => none := by funext j; simp [sv]
 have e0 : actOf l.toArray a0 (sv B (fun _ => undef) 0) = a0 := by rw [es0]; exact hnone _ _
 rw [← e0] at h
 have htk : ∀ i, i < (l.take B.length).length → (l.take B.length)[i]? = l.toArray[0 + i]? := fun i hi => by
  rw [List.length_take] at hi
  rw [List.getElem?_take_of_lt (by omega)]
  simp
 have hlen : (l.take B.length).length = B.length := by rw [List.length_take]; omega
 obtain ⟨v, _, hv, hQ⟩ := split C.dis B (l.take B.length) 0 (fun _ => undef) hlen.symm (fun i _ => by rw [Nat.zero_add]) htk h
 simp only [Nat.zero_add, hlen] at hv hQ
 have hl0 : ∀ j, (Array.replicate l.toArray.size false).getD j false = false := by intro j; by_cases h : j < l.length <;> simp [h]
 refine any_e (v := v) (R := R) C (by simpa using hml) hR (fun i o him ho hq => hv i o (by rw [List.getElem?_take_of_lt him]; simpa using ho) hq) _ (fun _ => none) _ _ _ ?_ (Nat.le_trans (cnt_le _ _) hfu)
 refine ⟨by simp, fun j _ => hl0 j, (hnone _ _).symm, fun _ _ => rfl, ?_, Grew.refl _, ?_, es.length, ?_⟩
 ·intro j _ _ h
  rw [hl0] at h
  cases h
 ·intro k j h
  rw [hl0] at h
  cases h
 ·have e1 : rem B B.length (Array.replicate l.toArray.size false) = es := by
   rw [← hes]
   unfold rem
   refine List.filter_congr fun j _ => ?_
   rw [hl0]
   simp
  have e2 : full B v B.length (fun _ => none) = sv B v B.length := rfl
  rw [e1, e2]
  exact hQ
def eB (l : List Oper) (n : Nat) (B : List Bool) : Bool :=
 chkE l.toArray B.length B && decide (B.length ≤ n ∧ n ≤ l.length) && L.midB l.toArray B.length n && (l.drop n).all (fun o => isQ o && o.guard.isNone) && L.qasL (L.dumL n l).toArray l.length [] []
/-- The theorem: operations with settled values and effects in any order; then some one by one; then reading ones in any order. -/
theorem wp_region_eff {id : Nat} {w : World} {l qs md tl : List Oper} (n : Nat) (B : List Bool) (es : List Nat) (hm : P.follows .mixedOrders = true) (hB : eB l n B = true) (hqs : pick B (l.take B.length) = qs) (hes : rem B B.length #[] = es) (hmd : (l.drop B.length).take (n - B.length) = md) (htl : l.drop n = tl)
  (h : wpSteady P l.toArray w.drew (fun af => wpE P l.toArray w.heap.size (fun a1 W1 => wpList P l.toArray (L.Q2 Q fun a2 W2 => wpSteady P l.toArray W2 (fun af2 => ∀ W3, Grew W2 W3 → wpList P l.toArray Q [] af2 W3) tl a2) md a1 W1) es.length es af w.drew) qs a0) :
  (Code.region id l.toArray true).wp P Q a0 w := by
 simp only [eB, Bool.and_eq_true, decide_eq_true_eq] at hB
 obtain ⟨⟨⟨⟨h1, h2, h3⟩, h4⟩, h5⟩, h6⟩ := hB
 have C := ce_of h1
 have hq : ∀ o ∈ tl, isQ o = true ∧ o.guard = none := fun o ho => by
  have := List.all_eq_true.1 h5 o (by rw [htl]; exact ho)
  simpa using this
 refine wp_region_any hm ?_
 refine eff_start (w0 := w.drew) B (by rw [h1]; simp; omega) hqs es hes (fun a1 W1 => wpList P l.toArray (L.Q2 Q fun a2 W2 => wpSteady P l.toArray W2 (fun af2 => ∀ W3, Grew W2 W3 → wpList P l.toArray Q [] af2 W3) tl a2) md a1 W1) ?_ h _ (Nat.le_refl _)
 intro fuel listed a W hs hl hf hw
 exact L.tail2 (m := B.length) C.lex h2 h3 h4 hq htl hmd h6 fuel listed a W hs hl hf hw
theorem wpE_ready {N f : Nat} {es : List Nat} {a : Act} {W : World} (rs : List Nat) (hne : es ≠ []) (hr : (es.filter fun e => es.all fun e' => !befT ops ops.size e e') = rs)
  (h : ∀ e ∈ rs, ∀ o, ops[e]? = some o → ∀ W', Grew W W' → effUpon P N W' (fun u W'' => wpE P ops N R f (es.filter (· != e)) (a.put o.dst u) W'') ((execOp a.eval o).run P W')) : wpE P ops N R (f + 1) es a W :=
 ⟨fun he => absurd he hne, fun e he hb o ho W' hg => h e (by
  rw [← hr]
  refine List.mem_filter.2 ⟨he, List.all_eq_true.2 fun e' he' => ?_⟩
  rw [hb e' he']
  rfl) o ho W' hg⟩
theorem wpE_nil {N f : Nat} {a : Act} {W : World} (h : ∀ W', Grew W W' → R a W') : wpE P ops N R f [] a W := by
 cases f with
 | zero => exact ⟨rfl, h⟩
 | succ f => exact ⟨fun _ => h, fun e he => by cases he⟩
end
end Go.Proofs.YtfeccolljfkejaaGreatDoor.E
