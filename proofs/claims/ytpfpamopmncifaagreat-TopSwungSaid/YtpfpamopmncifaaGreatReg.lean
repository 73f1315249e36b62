/- A region that draws its order, whose operations read, call functions that only lay new blocks, lay new variables and store into these: one walk of its reading operations serves every order. No condition but a check on the region's text. -/
import Derived.Test.YtpfpamopmncifaaGreatKit
set_option linter.unusedSimpArgs false
set_option linter.unusedVariables false
namespace Go.Proofs.YtpfpamopmncifaaGreat
open Go.RowKit Go.Sort
/-- What an operation gives in a world: the value v, in that very world; or a call that hands back v and lets the world grow. -/
def steadyUpon (P : Program) (w : World) (v : Value) : Result Next → Prop
 | .ok (.value u) w' => w' = w ∧ u = v
 | .ok .skip w' => w' = w ∧ v = undef
 | .ok (.enter f args) w' => w' = w ∧ Calls P f args w (Ret w v)
 | _ => False
def Steady (P : Program) (o : Oper) (a : Act) (w0 : World) (v : Value) : Prop :=
 ∀ p : GrownBy, steadyUpon P (Sort.grow (dr w0 p.n) p.os) v ((execOp a.eval o).run P (Sort.grow (dr w0 p.n) p.os))
def wpSteady (P : Program) (ops : Array Oper) (w0 : World) (Q : Act → Prop) : List Oper → Act → Prop
 | [], a => Q a
 | o :: rest, a => if Region.wanted o (yielded ops a.tmps) then ∃ v, Steady P o a w0 v ∧ wpSteady P ops w0 Q rest (a.put o.dst v) else wpSteady P ops w0 Q rest (a.put o.dst undef)
theorem wpSteady_nil {P : Program} {ops : Array Oper} {w0 : World} {Q : Act → Prop} {a : Act} (h : Q a) : wpSteady P ops w0 Q [] a := h
theorem wpSteady_step {P : Program} {ops : Array Oper} {w0 : World} {Q : Act → Prop} {a : Act} {o : Oper} {rest : List Oper}
  (h : ∀ K : Act → Prop, (∀ a, wpSteady P ops w0 Q rest a → K a) → if Region.wanted o (yielded ops a.tmps) then ∃ v, Steady P o a w0 v ∧ K (a.put o.dst v) else K (a.put o.dst undef)) : wpSteady P ops w0 Q (o :: rest) a :=
 h _ (fun _ h => h)
def isQ (o : Oper) : Bool := match o.op with | .alloc _ => false | .store _ _ _ => false | .buildSlice _ _ _ => false | _ => true
/-- A new variable of the region: the operation that lays it, the one that stores into it, its slot, its type, its zero value. -/
structure AL where
 j : Nat
 k : Nat
 d : Tmp
 T : TypeId
 z : Value
/-- A slice literal of the region: the operation, its slot, its length, its elements' type, what its block holds. -/
structure BL where
 j : Nat
 d : Tmp
 n : Nat
 e : TypeId
 cs : Act → Array Value
def isBS (o : Oper) : Bool := match o.op with | .buildSlice _ _ _ => true | _ => false
def dstOf (ops : Array Oper) (k : Nat) : Option Tmp := (ops[k]?).bind (·.dst)
def bef (ops : Array Oper) (k j : Nat) : Bool := match ops[k]? with | some o => o.after.any fun e => Region.binds .any e && e.on == j | none => false
/-- k waits for j, directly or through others. -/
def befT (ops : Array Oper) : Nat → Nat → Nat → Bool
 | 0, k, j => bef ops k j
 | f + 1, k, j => bef ops k j || (List.range k).any fun i => bef ops k i && befT ops f i j
/-- Every operation of the region whose slot is t comes ahead of number k, and reads. -/
def tmpOk (ops : Array Oper) (k : Nat) (t : Tmp) : Bool := (List.range ops.size).all fun j => match ops[j]? with
 | some o => o.dst != some t || (bef ops k j && isQ o)
 | none => true
/-- Every operation of the region whose slot is t comes ahead of number k, and reads; or comes behind it. -/
def tmpOkR (ops : Array Oper) (k : Nat) (t : Tmp) : Bool := (List.range ops.size).all fun j => match ops[j]? with
 | some o => o.dst != some t || (bef ops k j && isQ o) || bef ops j k
 | none => true
def opndOk (ops : Array Oper) (k : Nat) (x : Operand) : Bool := match x with | .tmp t => tmpOk ops k t | _ => true
def isAlloc (o : Oper) (T : TypeId) : Bool := match o.op with | .alloc U => U == T | _ => false
def isStoreTo (o : Oper) (T : TypeId) (d : Tmp) : Bool := match o.op with | .store U (.tmp e) _ => U == T && e == d | _ => false
def stOpnd (ops : Array Oper) (k : Nat) : Operand := match ops[k]? with | some o => (match o.op with | .store _ _ y => y | _ => .const undef) | none => .const undef
def alOk (ops : Array Oper) (x : AL) : Bool := match ops[x.j]?, ops[x.k]? with
 | some oj, some ok => isAlloc oj x.T && oj.guard.isNone && oj.dst == some x.d && isStoreTo ok x.T x.d && ok.guard.isNone && ok.dst.isNone && bef ops x.k x.j && opndOk ops x.k (stOpnd ops x.k)
 | _, _ => false
def blOk (ops : Array Oper) (y : BL) : Bool := match ops[y.j]? with
 | some o => isBS o && o.guard.isNone && o.dst == some y.d && (o.looksAt ops).all (tmpOk ops y.j)
 | none => false
def opOk (ops : Array Oper) (m : Nat) (als : List AL) (bls : List BL) (k : Nat) : Bool := match ops[k]? with
 | some o => (o.after.all fun e => !Region.binds .any e || decide (e.on < k)) &&
   ((List.range ops.size).all fun j => j == k || (match o.dst, dstOf ops j with | some d, some e => d != e | _, _ => true)) &&
   (if k < m then (if isQ o then (o.looksAt ops).all (tmpOkR ops k) else (als.any fun x => x.j == k || x.k == k) || bls.any fun y => y.j == k) else (List.range k).all fun j => befT ops ops.size k j)
 | none => true
def qasB (ops : Array Oper) (m : Nat) (als : List AL) (bls : List BL) : Bool := Region.noSelect ops && ((List.range ops.size).all (opOk ops m als bls)) && als.all (fun x => alOk ops x && decide (x.j < m ∧ x.k < m)) && decide ((als.map (·.j)).Nodup) && (bls.all (fun y => blOk ops y && decide (y.j < m)) && decide ((bls.map (·.j)).Nodup))
end Go.Proofs.YtpfpamopmncifaaGreat
namespace Go.Proofs.YtpfpamopmncifaaGreat
open Go.RowKit Go.Sort
section
variable {P : Program} {ops : Array Oper} {w0 : World} {a0 : Act}
/-- The frame with the values of some of the region's operations written. -/
def putsOf (ops : Array Oper) (vals : Nat → Option Value) : List Nat → Act → Act
 | [], a => a
 | k :: l, a => putsOf ops vals l (match vals k with | some v => a.put (dstOf ops k) v | none => a)
def actOf (ops : Array Oper) (a0 : Act) (vals : Nat → Option Value) : Act := putsOf ops vals (List.range ops.size) a0
def upd (vals : Nat → Option Value) (i : Nat) (v : Value) : Nat → Option Value := fun j => if j = i then some v else vals j
theorem putsOf_congr {vals vals' : Nat → Option Value} : ∀ (l : List Nat) (a : Act), (∀ j ∈ l, dstOf ops j ≠ none → vals j = vals' j) → putsOf ops vals l a = putsOf ops vals' l a
 | [], _, _ => rfl
 | k :: l, a, h => by
  unfold putsOf
  have e : (match vals k with | some v => a.put (dstOf ops k) v | none => a) = (match vals' k with | some v => a.put (dstOf ops k) v | none => a) := by
   cases hd : dstOf ops k with
   | none => cases vals k <;> cases vals' k <;> rfl
   | some d => rw [h k (by simp) (by rw [hd]; simp)]
  rw [e]
  exact putsOf_congr l _ fun j hj => h j (by simp [hj])
theorem putsOf_put {vals : Nat → Option Value} {d : Option Tmp} {v : Value} : ∀ (l : List Nat) (a : Act), (∀ j ∈ l, vals j ≠ none → ∀ t, d = some t → dstOf ops j ≠ some t) →
  putsOf ops vals l (a.put d v) = (putsOf ops vals l a).put d v
 | [], _, _ => rfl
 | k :: l, a, h => by
  unfold putsOf
  cases hv : vals k with
  | none => exact putsOf_put l a fun j hj => h j (by simp [hj])
  | some u =>
   simp only []
   rw [Act.put_comm a v u (h k (by simp) (by rw [hv]; simp))]
   exact putsOf_put l _ fun j hj => h j (by simp [hj])
theorem putsOf_upd {vals : Nat → Option Value} {i : Nat} {v : Value} (hn : vals i = none) : ∀ (l : List Nat) (a : Act), i ∈ l → l.Nodup → (∀ j ∈ l, j ≠ i → ∀ t, dstOf ops i = some t → dstOf ops j ≠ some t) →
  putsOf ops (upd vals i v) l a = (putsOf ops vals l a).put (dstOf ops i) v
 | [], _, h, _, _ => by cases h
 | k :: l, a, h, hnd, hd => by
  by_cases hk : k = i
  ·subst hk
   have hkl : k ∉ l := (List.nodup_cons.1 hnd).1
   unfold putsOf
   simp only [upd, if_pos, hn]
   have hne : ∀ j, j ∈ l → j ≠ k := fun j hj e => hkl (by rw [← e]; exact hj)
   have e : putsOf ops (upd vals k v) l (a.put (dstOf ops k) v) = putsOf ops vals l (a.put (dstOf ops k) v) :=
    putsOf_congr l _ fun j hj _ => if_neg (hne j hj)
   rw [e]
   exact putsOf_put l a fun j hj _ => hd j (by simp [hj]) (hne j hj)
  ·have hil : i ∈ l := by
    rcases List.mem_cons.1 h with h | h
    ·exact absurd h.symm hk
    ·exact h
   unfold putsOf
   have e : upd vals i v k = vals k := if_neg hk
   rw [e]
   exact putsOf_upd hn l _ hil (List.nodup_cons.1 hnd).2 fun j hj => hd j (by simp [hj])
/-- A slot reads alike in two such frames, if the operations whose slot it is have the same values. -/
theorem putsOf_slot {vals vals' : Nat → Option Value} {t : Tmp} : ∀ (l : List Nat) (a a' : Act), a.tmps[t]? = a'.tmps[t]? → (∀ j ∈ l, dstOf ops j = some t → vals j = vals' j) →
  (putsOf ops vals l a).tmps[t]? = (putsOf ops vals' l a').tmps[t]?
 | [], _, _, h, _ => h
 | k :: l, a, a', h, hv => by
  unfold putsOf
  refine putsOf_slot l _ _ ?_ fun j hj => hv j (by simp [hj])
  cases hd : dstOf ops k with
  | none => cases vals k <;> cases vals' k <;> exact h
  | some d =>
   by_cases hdt : d = t
   ·subst hdt
    rw [hv k (by simp) hd]
    cases vals' k with
    | none => exact h
    | some u =>
     have hs : d < a.tmps.size ↔ d < a'.tmps.size := by
      have h1 : (a.tmps[d]?).isSome = decide (d < a.tmps.size) := by by_cases hx : d < a.tmps.size <;> simp [hx]
      have h2 : (a'.tmps[d]?).isSome = decide (d < a'.tmps.size) := by by_cases hx : d < a'.tmps.size <;> simp [hx]
      rw [h, h2] at h1
      simpa using h1.symm
     simp only [Act.put, Array.getElem?_setIfInBounds]
     by_cases h1 : d < a.tmps.size
     ·simp [h1, hs.1 h1]
     ·simp [h1, show ¬ d < a'.tmps.size from fun e => h1 (hs.2 e)]
   ·cases vals k <;> cases vals' k <;> simp only [Act.put, Array.getElem?_setIfInBounds_ne hdt] <;> exact h
theorem actOf_slot {vals vals' : Nat → Option Value} {t : Tmp} (h : ∀ j, j < ops.size → dstOf ops j = some t → vals j = vals' j) : (actOf ops a0 vals).tmps[t]? = (actOf ops a0 vals').tmps[t]? :=
 putsOf_slot _ _ _ rfl fun j hj => h j (List.mem_range.1 hj)
theorem actOf_eval {vals vals' : Nat → Option Value} {x : Operand} (h : ∀ t, x = .tmp t → ∀ j, j < ops.size → dstOf ops j = some t → vals j = vals' j) : (actOf ops a0 vals).eval x = (actOf ops a0 vals').eval x := by
 cases x with
 | tmp t =>
  have := actOf_slot (a0 := a0) (h t rfl)
  simp only [Act.eval]
  rw [Array.getD_eq_getD_getElem?, Array.getD_eq_getD_getElem?, this]
 | _ => rfl
theorem actOf_exec {vals vals' : Nat → Option Value} {o : Oper} (hs : ∀ cs b, o.op ≠ .select cs b) (h : ∀ t, t ∈ o.looksAt ops → ∀ j, j < ops.size → dstOf ops j = some t → vals j = vals' j) :
  execOp (actOf ops a0 vals).eval o = execOp (actOf ops a0 vals').eval o :=
 execOp_congr o hs fun x hx => actOf_eval fun t ht => h t (List.mem_append_left _ (List.mem_filterMap.2 ⟨.tmp t, by subst ht; simpa using hx, rfl⟩))
theorem actOf_wanted {vals vals' : Nat → Option Value} {o : Oper} (h : ∀ t, t ∈ o.looksAt ops → ∀ j, j < ops.size → dstOf ops j = some t → vals j = vals' j) :
  Region.wanted o (yielded ops (actOf ops a0 vals).tmps) = Region.wanted o (yielded ops (actOf ops a0 vals').tmps) := by
 unfold Region.wanted
 cases hg : o.guard with
 | none => rfl
 | some gw =>
  obtain ⟨g, want⟩ := gw
  have hy : yielded ops (actOf ops a0 vals).tmps g = yielded ops (actOf ops a0 vals').tmps g := by
   unfold yielded
   cases ht : (ops[g]?).bind (·.dst) with
   | none => rfl
   | some t =>
    have := actOf_slot (a0 := a0) (h t (by simp [Oper.looksAt, hg, ht]))
    simp only [Option.bind_some, this]
  simp only [hy]
end
end Go.Proofs.YtpfpamopmncifaaGreat
namespace Go.Proofs.YtpfpamopmncifaaGreat
open Go.RowKit Go.Sort
section
variable {P : Program} {ops : Array Oper} {w0 : World} {a0 : Act}
def qRaw (ops : Array Oper) (j : Nat) : Bool := match ops[j]? with | some o => isQ o | none => false
def qv (ops : Array Oper) (v : Nat → Value) (k : Nat) : Nat → Option Value := fun j => if j < k ∧ qRaw ops j = true then some (v j) else none
def YS (P : Program) (ops : Array Oper) (w0 : World) (o : Oper) (u : Value) (a : Act) : Prop :=
 (Region.wanted o (yielded ops a.tmps) = true ∧ Steady P o a w0 u) ∨ (Region.wanted o (yielded ops a.tmps) = false ∧ u = undef)
def Distinct (ops : Array Oper) : Prop := ∀ i j, i ≠ j → ∀ t, dstOf ops i = some t → dstOf ops j ≠ some t
theorem actOf_upd {vals : Nat → Option Value} {i : Nat} {v : Value} (hD : Distinct ops) (hn : vals i = none) (hi : i < ops.size) : actOf ops a0 (upd vals i v) = (actOf ops a0 vals).put (dstOf ops i) v :=
 putsOf_upd hn _ _ (List.mem_range.2 hi) List.nodup_range fun j _ hj t ht => hD i j (fun e => hj e.symm) t ht
theorem steady_split (hD : Distinct ops) {Q : Act → Prop} : ∀ (l : List Oper) (k : Nat) (v : Nat → Value), (∀ i, i < l.length → l[i]? = ops[k + i]?) → wpSteady P ops w0 Q (l.filter isQ) (actOf ops a0 (qv ops v k)) →
  ∃ v' : Nat → Value, (∀ j, j < k → v' j = v j) ∧ (∀ i o, l[i]? = some o → isQ o = true → YS P ops w0 o (v' (k + i)) (actOf ops a0 (qv ops v' (k + i)))) ∧ Q (actOf ops a0 (qv ops v' (k + l.length)))
 | [], k, v, _, h => ⟨v, fun _ _ => rfl, fun i o h => by simp at h, h⟩
 | o :: l, k, v, hl, h => by
  have h0 : ops[k]? = some o := by simpa using (hl 0 (by simp)).symm
  have hk : k < ops.size := (Array.getElem?_eq_some_iff.1 h0).1
  have hl' : ∀ i, i < l.length → l[i]? = ops[k + 1 + i]? := fun i hi => by have := hl (i + 1) (by simpa using hi); simpa [Nat.add_assoc, Nat.add_comm 1 i] using this
  by_cases hq : isQ o = true
  ·rw [List.filter_cons_of_pos hq] at h
   have key : ∃ u, YS P ops w0 o u (actOf ops a0 (qv ops v k)) ∧ wpSteady P ops w0 Q (l.filter isQ) ((actOf ops a0 (qv ops v k)).put o.dst u) := by
    unfold wpSteady at h
    by_cases hw : Region.wanted o (yielded ops (actOf ops a0 (qv ops v k)).tmps) = true
    ·rw [if_pos hw] at h
     obtain ⟨u, h1, h2⟩ := h
     exact ⟨u, .inl ⟨hw, h1⟩, h2⟩
    ·rw [if_neg hw] at h
     exact ⟨undef, .inr ⟨by simpa using hw, rfl⟩, h⟩
   obtain ⟨u, hy, h2⟩ := key
   have hfun : qv ops (fun j => if j = k then u else v j) (k + 1) = upd (qv ops v k) k u := by
    funext j
    unfold qv upd
    by_cases hj : j = k
    ·subst hj
     simp [qRaw, h0, hq]
    ·have e : (j < k + 1) ↔ (j < k) := by omega
     simp [hj, e]
   have hdst : dstOf ops k = o.dst := by simp [dstOf, h0]
   rw [← hdst, ← actOf_upd hD (by simp [qv]) hk, ← hfun] at h2
   obtain ⟨v', g1, g2, g3⟩ := steady_split hD l (k + 1) _ hl' h2
   have hle : ∀ j, j < k → v' j = v j := fun j hj => by rw [g1 j (by omega), if_neg (by omega)]
   have hu : v' k = u := by rw [g1 k (by omega), if_pos rfl]
   refine ⟨v', hle, ?_, by rw [List.length_cons, show k + (l.length + 1) = k + 1 + l.length from by omega]; exact g3⟩
   intro i o' hi hq'
   cases i with
   | zero =>
    simp only [List.getElem?_cons_zero, Option.some.injEq] at hi
    subst hi
    have e : qv ops v' (k + 0) = qv ops v k := by
     funext j
     unfold qv
     by_cases hj : j < k
     ·simp [hj, hle j hj]
     ·simp [hj]
    rw [e, Nat.add_zero, hu]
    exact hy
   | succ i =>
    simp only [List.getElem?_cons_succ] at hi
    have := g2 i o' hi hq'
    rw [show k + 1 + i = k + (i + 1) from by omega] at this
    exact this
  ·rw [List.filter_cons_of_neg hq] at h
   have hfun : qv ops v (k + 1) = qv ops v k := by
    funext j
    unfold qv
    by_cases hj : j = k
    ·subst hj
     simp [qRaw, h0, hq]
    ·have e : (j < k + 1) ↔ (j < k) := by omega
     simp [e]
   rw [← hfun] at h
   obtain ⟨v', g1, g2, g3⟩ := steady_split hD l (k + 1) v hl' h
   refine ⟨v', fun j hj => g1 j (by omega), ?_, by rw [List.length_cons, show k + (l.length + 1) = k + 1 + l.length from by omega]; exact g3⟩
   intro i o' hi hq'
   cases i with
   | zero =>
    simp only [List.getElem?_cons_zero, Option.some.injEq] at hi
    subst hi
    exact absurd hq' hq
   | succ i =>
    simp only [List.getElem?_cons_succ] at hi
    have := g2 i o' hi hq'
    rw [show k + 1 + i = k + (i + 1) from by omega] at this
    exact this
end
end Go.Proofs.YtpfpamopmncifaaGreat
namespace Go.Proofs.YtpfpamopmncifaaGreat
open Go.RowKit Go.Sort
section
variable {P : Program} {ops : Array Oper} {w0 : World} {a0 : Act} {als : List AL} {bls : List BL}
structure Checks (ops : Array Oper) (m : Nat) (als : List AL) (bls : List BL) : Prop where
 noSel : ∀ (j : Nat) (o : Oper) cs b, ops[j]? = some o → o.op ≠ .select cs b
 lex : ∀ k o e, ops[k]? = some o → e ∈ o.after → Region.binds .any e = true → e.on < k
 dis : Distinct ops
 q : ∀ k o, k < m → ops[k]? = some o → isQ o = true → ∀ t, t ∈ o.looksAt ops → ∀ j, j < ops.size → dstOf ops j = some t → (bef ops k j = true ∧ qRaw ops j = true) ∨ bef ops j k = true
 nq : ∀ k o, k < m → ops[k]? = some o → isQ o = false → (∃ x ∈ als, x.j = k ∨ x.k = k) ∨ ∃ y ∈ bls, y.j = k
 al : ∀ x ∈ als, ∃ oj ok, ops[x.j]? = some oj ∧ ops[x.k]? = some ok ∧ oj.op = .alloc x.T ∧ oj.guard = none ∧ oj.dst = some x.d ∧ ok.op = .store x.T (.tmp x.d) (stOpnd ops x.k) ∧ ok.guard = none ∧ ok.dst = none ∧ bef ops x.k x.j = true
 st : ∀ x ∈ als, ∀ t, stOpnd ops x.k = .tmp t → ∀ j, j < ops.size → dstOf ops j = some t → bef ops x.k j = true ∧ qRaw ops j = true
 nd : (als.map (·.j)).Nodup
 tl : ∀ k o, m ≤ k → ops[k]? = some o → ∀ j, j < k → ∃ f, befT ops f k j = true
 alm : ∀ x ∈ als, x.j < m ∧ x.k < m
 bl : ∀ y ∈ bls, y.j < m ∧ ∃ o, ops[y.j]? = some o ∧ isBS o = true ∧ o.guard = none ∧ o.dst = some y.d ∧ ∀ t, t ∈ o.looksAt ops → ∀ j, j < ops.size → dstOf ops j = some t → bef ops y.j j = true ∧ qRaw ops j = true
 bnd : (bls.map (·.j)).Nodup
theorem tmpOk_spec {k : Nat} {t : Tmp} (h : tmpOk ops k t = true) : ∀ j, j < ops.size → dstOf ops j = some t → bef ops k j = true ∧ qRaw ops j = true := by
 intro j hj hd
 have := List.all_eq_true.1 h j (List.mem_range.2 hj)
 have ho : ops[j]? = some ops[j] := Array.getElem?_eq_getElem hj
 simp only [ho] at this
 have hdd : ops[j].dst = some t := by simpa [dstOf, ho] using hd
 simp [hdd] at this
 exact ⟨this.1, by simp [qRaw, ho, this.2]⟩
theorem tmpOkR_spec {k : Nat} {t : Tmp} (h : tmpOkR ops k t = true) : ∀ j, j < ops.size → dstOf ops j = some t → (bef ops k j = true ∧ qRaw ops j = true) ∨ bef ops j k = true := by
 intro j hj hd
 have := List.all_eq_true.1 h j (List.mem_range.2 hj)
 have ho : ops[j]? = some ops[j] := Array.getElem?_eq_getElem hj
 simp only [ho] at this
 have hdd : ops[j].dst = some t := by simpa [dstOf, ho] using hd
 simp [hdd] at this
 exact this.imp (fun h => ⟨h.1, by simp [qRaw, ho, h.2]⟩) id
theorem checks_of {m : Nat} (h : qasB ops m als bls = true) : Checks ops m als bls := by
 simp only [qasB, Bool.and_eq_true, decide_eq_true_eq] at h
 obtain ⟨⟨⟨⟨h1, h2⟩, h3⟩, h4⟩, h5, h6⟩ := h
 have hop : ∀ k o, ops[k]? = some o → opOk ops m als bls k = true := fun k o ho => List.all_eq_true.1 h2 k (List.mem_range.2 (Array.getElem?_eq_some_iff.1 ho).1)
 have hal0 : ∀ x ∈ als, alOk ops x = true ∧ x.j < m ∧ x.k < m := fun x hx => by have := List.all_eq_true.1 h3 x hx; simpa using this
 have hal : ∀ x ∈ als, alOk ops x = true := fun x hx => (hal0 x hx).1
 refine ⟨fun j o cs b ho => Region.noSelect_spec h1 j o cs b ho, ?_, ?_, ?_, ?_, ?_, ?_, h4, ?_, fun x hx => (hal0 x hx).2, ?_, h6⟩
 ·intro k o e ho he hb
  have := hop k o ho
  simp only [opOk, ho, Bool.and_eq_true] at this
  have := Array.all_eq_true_iff_forall_mem.1 this.1.1 e he
  simpa [hb] using this
 ·intro i j hij t hi hj
  cases ho : ops[i]? with
  | none => simp [dstOf, ho] at hi
  | some o =>
   have := hop i o ho
   simp only [opOk, ho, Bool.and_eq_true] at this
   have hjs : j < ops.size := by
    rcases Nat.lt_or_ge j ops.size with h | h
    ·exact h
    ·simp [dstOf, Array.getElem?_eq_none h] at hj
   have := List.all_eq_true.1 this.1.2 j (List.mem_range.2 hjs)
   have hd : o.dst = some t := by simpa [dstOf, ho] using hi
   simp [hd, hj] at this
   exact hij this.symm
 ·intro k o hkm ho hq t ht
  have := hop k o ho
  simp only [opOk, ho, Bool.and_eq_true, hq, if_true, if_pos hkm] at this
  exact tmpOkR_spec (List.all_eq_true.1 this.2 t ht)
 ·intro k o hkm ho hq
  have := hop k o ho
  simp only [opOk, ho, Bool.and_eq_true, hq, if_pos hkm] at this
  have h7 := this.2
  simp only [Bool.false_eq_true, if_false, Bool.or_eq_true] at h7
  rcases h7 with h7 | h7
  ·obtain ⟨x, hx, hk⟩ := List.any_eq_true.1 h7
   exact .inl ⟨x, hx, by simpa using hk⟩
  ·obtain ⟨y, hy, hk⟩ := List.any_eq_true.1 h7
   exact .inr ⟨y, hy, by simpa using hk⟩
 ·intro x hx
  have := hal x hx
  unfold alOk at this
  cases hj : ops[x.j]? with
  | none => simp [hj] at this
  | some oj =>
   cases hk : ops[x.k]? with
   | none => simp [hj, hk] at this
   | some ok =>
    simp only [hj, hk, Bool.and_eq_true] at this
    obtain ⟨⟨⟨⟨⟨⟨⟨a1, a2⟩, a3⟩, a4⟩, a5⟩, a6⟩, a7⟩, a8⟩ := this
    refine ⟨oj, ok, rfl, rfl, ?_, by simpa using a2, by simpa using a3, ?_, by simpa using a5, by simpa using a6, a7⟩
    ·unfold isAlloc at a1
     split at a1
     ·rename_i U hU; rw [hU]; simp at a1; rw [a1]
     ·cases a1
    ·unfold isStoreTo at a4
     split at a4
     ·rename_i U e y hU
      simp at a4
      have : stOpnd ops x.k = y := by simp [stOpnd, hk, hU]
      rw [hU, a4.1, a4.2, this]
     ·cases a4
 ·intro x hx t ht
  have := hal x hx
  unfold alOk at this
  cases hj : ops[x.j]? with
  | none => simp [hj] at this
  | some oj =>
   cases hk : ops[x.k]? with
   | none => simp [hj, hk] at this
   | some ok =>
    simp only [hj, hk, Bool.and_eq_true] at this
    have h8 := this.2
    rw [ht] at h8
    exact tmpOk_spec h8
 ·intro k o hmk ho j hj
  have := hop k o ho
  simp only [opOk, ho, Bool.and_eq_true, if_neg (Nat.not_lt.2 hmk)] at this
  exact ⟨_, List.all_eq_true.1 this.2 j (List.mem_range.2 hj)⟩
 ·intro y hy
  have h7 := List.all_eq_true.1 h5 y hy
  rw [Bool.and_eq_true, decide_eq_true_eq] at h7
  refine ⟨h7.2, ?_⟩
  have h8 := h7.1
  unfold blOk at h8
  cases ho : ops[y.j]? with
  | none => simp [ho] at h8
  | some o =>
   simp only [ho, Bool.and_eq_true] at h8
   exact ⟨o, rfl, h8.1.1.1, by simpa using h8.1.1.2, by simpa using h8.1.2, fun t ht => tmpOk_spec (List.all_eq_true.1 h8.2 t ht)⟩
/-- How many are not listed yet. -/
def cnt (f : Nat → Bool) : Nat → Nat
 | 0 => 0
 | n + 1 => cnt f n + (if f n then 0 else 1)
theorem cnt_same {f g : Nat → Bool} : ∀ n, (∀ j, j < n → f j = g j) → cnt f n = cnt g n
 | 0, _ => rfl
 | n + 1, h => by unfold cnt; rw [cnt_same n fun j hj => h j (by omega), h n (by omega)]
theorem cnt_set {f g : Nat → Bool} {i : Nat} (hf : f i = false) (hg : g i = true) (hs : ∀ j, j ≠ i → g j = f j) : ∀ n, i < n → cnt g n + 1 = cnt f n
 | 0, h => by omega
 | n + 1, h => by
  unfold cnt
  by_cases hi : i = n
  ·subst hi
   rw [cnt_same (f := g) (g := f) i fun j hj => hs j (by omega), hf, hg]
   simp
  ·have := cnt_set hf hg hs n (by omega)
   rw [hs n (fun e => hi e.symm)]
   omega
theorem cnt_zero {f : Nat → Bool} : ∀ n, cnt f n = 0 → ∀ j, j < n → f j = true
 | 0, _, j, hj => by omega
 | n + 1, h, j, hj => by
  unfold cnt at h
  by_cases hjn : j = n
  ·subst hjn
   by_cases hf : f j = true
   ·exact hf
   ·simp [hf] at h
  ·exact cnt_zero n (by omega) j (by omega)
end
end Go.Proofs.YtpfpamopmncifaaGreat
namespace Go.Proofs.YtpfpamopmncifaaGreat
open Go.RowKit Go.Sort
section
variable {P : Program} {ops : Array Oper} {w0 : World} {a0 : Act} {als : List AL} {bls : List BL}
theorem Grew.setRow {a w : World} (h : Grew a w) {p : Nat} (hp : a.heap.size ≤ p) (cs : Array Value) : Grew a (w.setRow p cs) := by
 obtain ⟨⟨n, os⟩, rfl⟩ := h
 refine ⟨⟨n, os.modify (p - a.heap.size) fun | .cells _ elem frozen => .cells cs elem frozen | o => o⟩, ?_⟩
 simp only [World.setRow, Sort.grow]
 rw [modify_append_right _ _ _ _ (by exact hp)]
 rfl
theorem heap_setRow_same {w : World} {p : Nat} {cs cs' : Array Value} {T : TypeId} (h : w.heap[p]? = some (.cells cs T (0, 0))) : (w.setRow p cs').heap[p]? = some (.cells cs' T (0, 0)) := by
 simp [World.setRow, Array.getElem?_modify, h]
theorem heap_setRow_ne {w : World} {p q : Nat} {cs' : Array Value} (h : p ≠ q) : (w.setRow p cs').heap[q]? = w.heap[q]? := by
 simp [World.setRow, Array.getElem?_modify, h]
theorem run_alloc_op {o : Oper} {ρ : Operand → Value} {T : TypeId} {z : Value} {W : World} (ho : o.op = .alloc T) (hz : (zeroValue T).run P W = .ok z W) :
  (execOp ρ o).run P W = .ok (.value (.pointer (some ⟨W.heap.size, 0, none⟩))) (W.alloc (.cells z.cells T)) := by
 unfold execOp
 rw [ho]
 simp [Instr.alloc, hz, newVar, newRow, go_sem]
theorem run_store_op {o : Oper} {ρ : Operand → Value} {T : TypeId} {x y : Operand} {z v : Value} {p : Nat} {W : World} (ho : o.op = .store T x y) (hx : ρ x = .pointer (some ⟨p, 0, none⟩)) (hy : ρ y = v)
  (hs : (sizeOf T).run P W = .ok z.cells.size W) (hz : v.cells.size = z.cells.size) (h1 : ∀ u ∈ v.cells.toList, u.oneCell' = true) (hp : W.heap[p]? = some (.cells z.cells T (0, 0))) :
  (execOp ρ o).run P W = .ok .skip (W.setRow p v.cells) := by
 have hst := run_storeCells_at P p 0 T v.cells.toList 0 z.cells W hp (by simp [hz]) h1
 have e : (z.cells.toList.take (0 + 0) ++ v.cells.toList ++ z.cells.toList.drop (0 + 0 + v.cells.toList.length)).toArray = v.cells := by
  simp [hz]
  rw [List.drop_eq_nil_of_le (by simp)]
  simp
 rw [e] at hst
 unfold execOp
 rw [ho]
 simp [Instr.storeAt, Instr.sureAddr, storeVar, hx, hy, hs, hz, hst]
/-- Where a region's new variables lie, and what they hold. -/
def Fresh (ops : Array Oper) (w0 W : World) (af : Act) : List AL → List Nat → Prop
 | [], ps => ps = []
 | x :: als, ps => ∃ p ps', ps = p :: ps' ∧ w0.heap.size ≤ p ∧ W.heap[p]? = some (.cells (af.eval (stOpnd ops x.k)).cells x.T (0, 0)) ∧ p ∉ ps' ∧ Fresh ops w0 W af als ps'
/-- Where a region's slice literals lie, and what they hold. -/
def FreshB (w0 W : World) (af : Act) : List BL → List Nat → Prop
 | [], ps => ps = []
 | y :: bls, ps => ∃ p ps', ps = p :: ps' ∧ w0.heap.size ≤ p ∧ W.heap[p]? = some (.cells (y.cs af) y.e (0, 0)) ∧ FreshB w0 W af bls ps'
def putB : List BL → List Nat → Act → Act
 | y :: bls, p :: ps, a => putB bls ps (a.put (some y.d) (.slice (some ⟨p, 0, none⟩) y.n y.n))
 | _, _, a => a
/-- The slice literals run so. -/
def LyOk (P : Program) (ops : Array Oper) (af : Act) (bls : List BL) : Prop := ∀ y ∈ bls, ∀ o, ops[y.j]? = some o → ∀ W : World, (execOp af.eval o).run P W = .ok (.value (.slice (some ⟨W.heap.size, 0, none⟩) y.n y.n)) (W.alloc (.cells (y.cs af) y.e))
def putAll : List AL → List Nat → Act → Act
 | x :: als, p :: ps, a => putAll als ps (a.put (some x.d) (.pointer (some ⟨p, 0, none⟩)))
 | _, _, a => a
def StOk (ops : Array Oper) (af : Act) (als : List AL) : Prop := ∀ x ∈ als, (af.eval (stOpnd ops x.k)).cells.size = x.z.cells.size ∧ ∀ u ∈ (af.eval (stOpnd ops x.k)).cells.toList, u.oneCell' = true
def ZOk (P : Program) (als : List AL) : Prop := ∀ x ∈ als, (∀ W, (zeroValue x.T).run P W = .ok x.z W) ∧ (∀ W, (sizeOf x.T).run P W = .ok x.z.cells.size W)
structure Inv (P : Program) (ops : Array Oper) (m : Nat) (w0 : World) (a0 : Act) (als : List AL) (bls : List BL) (v : Nat → Value) (af : Act) (vals : Nat → Option Value) (π : Nat → Nat) (listed : Array Bool) (a : Act) (W : World) : Prop where
 size : listed.size = ops.size
 main : ∀ j, m ≤ j → listed.getD j false = false
 act : a = actOf ops a0 vals
 off : ∀ j, listed.getD j false = false → vals j = none
 on : ∀ j, j < ops.size → qRaw ops j = true → listed.getD j false = true → vals j = some (v j)
 grew : Grew w0 W
 down : ∀ k j, listed.getD k false = true → bef ops k j = true → listed.getD j false = true
 al : ∀ x ∈ als, listed.getD x.j false = true → vals x.j = some (.pointer (some ⟨π x.j, 0, none⟩)) ∧ w0.heap.size ≤ π x.j ∧
  W.heap[π x.j]? = some (.cells (if listed.getD x.k false = true then (af.eval (stOpnd ops x.k)).cells else x.z.cells) x.T (0, 0))
 inj : ∀ x ∈ als, ∀ y ∈ als, listed.getD x.j false = true → listed.getD y.j false = true → π x.j = π y.j → x.j = y.j
 bl : ∀ y ∈ bls, listed.getD y.j false = true → vals y.j = some (.slice (some ⟨π y.j, 0, none⟩) y.n y.n) ∧ w0.heap.size ≤ π y.j ∧ W.heap[π y.j]? = some (.cells (y.cs af) y.e (0, 0))
 inb : ∀ x ∈ als, ∀ y ∈ bls, listed.getD x.j false = true → listed.getD y.j false = true → π x.j ≠ π y.j
theorem getD_set_self {listed : Array Bool} {i : Nat} (h : i < listed.size) : (listed.setIfInBounds i true).getD i false = true := by simp [h]
theorem getD_set_other {listed : Array Bool} {i j : Nat} (h : i ≠ j) : (listed.setIfInBounds i true).getD j false = listed.getD j false := by simp [Array.getElem?_setIfInBounds_ne h]
theorem bef_of_ready {listed : Array Bool} {i j : Nat} (h : i ∈ Region.ready .any ops listed) (hb : bef ops i j = true) : listed.getD j false = true := by
 obtain ⟨_, o, ho, hall⟩ := mem_ready.1 h
 unfold bef at hb
 simp only [ho] at hb
 obtain ⟨e, he⟩ := Array.any_eq_true.1 hb
 obtain ⟨he1, he2⟩ := he
 simp at he2
 have := hall _ (Array.getElem_mem he1) he2.1
 rwa [he2.2] at this
end
end Go.Proofs.YtpfpamopmncifaaGreat
namespace Go.Proofs.YtpfpamopmncifaaGreat
open Go.RowKit Go.Sort
section
variable {P : Program} {ops : Array Oper} {w0 : World} {a0 : Act} {m : Nat} {als : List AL} {bls : List BL} {v : Nat → Value} {af : Act} {vals : Nat → Option Value} {π : Nat → Nat} {listed : Array Bool} {a : Act} {W : World}
theorem bef_lt (C : Checks ops m als bls) {i j : Nat} (hb : bef ops i j = true) : j < i := by
 unfold bef at hb
 cases ho : ops[i]? with
 | none => simp [ho] at hb
 | some o =>
  simp only [ho] at hb
  obtain ⟨e, he1, he2⟩ := Array.any_eq_true.1 hb
  simp at he2
  have := C.lex i o _ ho (Array.getElem_mem he1) he2.1
  omega
theorem ready_lt {i : Nat} (hr : i ∈ Region.ready .any ops listed) : i < ops.size ∧ listed.getD i true = false := by
 obtain ⟨h, o, ho, _⟩ := mem_ready.1 hr
 exact ⟨(Array.getElem?_eq_some_iff.1 ho).1, h⟩
theorem befT_listed {i j : Nat} (hd : ∀ k j, listed.getD k false = true → bef ops k j = true → listed.getD j false = true) : ∀ (f : Nat), (i ∈ Region.ready .any ops listed ∨ listed.getD i false = true) → befT ops f i j = true → listed.getD j false = true
 | 0, h, hb => h.elim (fun h => bef_of_ready h hb) (fun h => hd _ _ h hb)
 | f + 1, h, hb => by
  unfold befT at hb
  rw [Bool.or_eq_true] at hb
  rcases hb with hb | hb
  ·exact h.elim (fun h => bef_of_ready h hb) (fun h => hd _ _ h hb)
  ·obtain ⟨q, _, hq⟩ := List.any_eq_true.1 hb
   rw [Bool.and_eq_true] at hq
   exact befT_listed hd f (.inr (h.elim (fun h => bef_of_ready h hq.1) (fun h => hd _ _ h hq.1))) hq.2
theorem ready_off (I : Inv P ops m w0 a0 als bls v af vals π listed a W) {i : Nat} (hr : i ∈ Region.ready .any ops listed) : listed.getD i false = false := by
 have h := ready_lt hr
 have hs : i < listed.size := by rw [I.size]; exact h.1
 have := h.2
 simp [hs] at this ⊢
 exact this
theorem agree (C : Checks ops m als bls) (I : Inv P ops m w0 a0 als bls v af vals π listed a W) {i : Nat} {o : Oper} (him : i < m) (hr : i ∈ Region.ready .any ops listed) (ho : ops[i]? = some o) (hq : isQ o = true) :
  ∀ t, t ∈ o.looksAt ops → ∀ j, j < ops.size → dstOf ops j = some t → vals j = qv ops v i j := by
 intro t ht j hj hd
 rcases C.q i o him ho hq t ht j hj hd with ⟨hb, hqj⟩ | hb
 ·rw [I.on j hj hqj (bef_of_ready hr hb)]
  simp [qv, bef_lt C hb, hqj]
 ·have hoff : listed.getD j false = false := by
   cases hc : listed.getD j false with
   | false => rfl
   | true => have h1 := I.down j i hc hb; rw [ready_off I hr] at h1; cases h1
  rw [I.off j hoff]
  have := bef_lt C hb
  simp [qv, show ¬ j < i by omega]
/-- What is common to all three kinds of step. -/
theorem inv_step (C : Checks ops m als bls) (I : Inv P ops m w0 a0 als bls v af vals π listed a W) {i : Nat} {o : Oper} {u : Value} {π' : Nat → Nat} {W' : World} (him : i < m) (hr : i ∈ Region.ready .any ops listed) (ho : ops[i]? = some o)
  (hon : qRaw ops i = true → u = v i) (hg : Grew w0 W')
  (hal : ∀ x ∈ als, (listed.setIfInBounds i true).getD x.j false = true → upd vals i u x.j = some (.pointer (some ⟨π' x.j, 0, none⟩)) ∧ w0.heap.size ≤ π' x.j ∧
   W'.heap[π' x.j]? = some (.cells (if (listed.setIfInBounds i true).getD x.k false = true then (af.eval (stOpnd ops x.k)).cells else x.z.cells) x.T (0, 0)))
  (hinj : ∀ x ∈ als, ∀ y ∈ als, (listed.setIfInBounds i true).getD x.j false = true → (listed.setIfInBounds i true).getD y.j false = true → π' x.j = π' y.j → x.j = y.j)
  (hbl : ∀ y ∈ bls, (listed.setIfInBounds i true).getD y.j false = true → upd vals i u y.j = some (.slice (some ⟨π' y.j, 0, none⟩) y.n y.n) ∧ w0.heap.size ≤ π' y.j ∧ W'.heap[π' y.j]? = some (.cells (y.cs af) y.e (0, 0)))
  (hinb : ∀ x ∈ als, ∀ y ∈ bls, (listed.setIfInBounds i true).getD x.j false = true → (listed.setIfInBounds i true).getD y.j false = true → π' x.j ≠ π' y.j) :
  Inv P ops m w0 a0 als bls v af (upd vals i u) π' (listed.setIfInBounds i true) (a.put o.dst u) W' := by
 have hlt := (ready_lt hr).1
 have hoff := ready_off I hr
 have his : i < listed.size := by rw [I.size]; exact hlt
 have hdst : dstOf ops i = o.dst := by simp [dstOf, ho]
 refine ⟨by simp [I.size], fun j hj => by rw [getD_set_other (by omega)]; exact I.main j hj, ?_, ?_, ?_, hg, ?_, hal, hinj, hbl, hinb⟩
 ·rw [actOf_upd C.dis (I.off i hoff) hlt, hdst, I.act]
 ·intro j hj
  by_cases hji : i = j
  ·subst hji
   rw [getD_set_self his] at hj
   cases hj
  ·rw [getD_set_other hji] at hj
   unfold upd
   rw [if_neg (fun e => hji e.symm)]
   exact I.off j hj
 ·intro j hj hq hl
  by_cases hji : i = j
  ·subst hji
   unfold upd
   rw [if_pos rfl, hon hq]
  ·rw [getD_set_other hji] at hl
   unfold upd
   rw [if_neg (fun e => hji e.symm)]
   exact I.on j hj hq hl
 ·intro k j hk hb
  by_cases hki : i = k
  ·subst hki
   exact getD_set_true (bef_of_ready hr hb)
  ·rw [getD_set_other hki] at hk
   exact getD_set_true (I.down k j hk hb)
theorem al_ne (C : Checks ops m als bls) {x : AL} (hx : x ∈ als) : x.j ≠ x.k := by
 obtain ⟨oj, ok, hj, hk, aj, _, _, ak, _⟩ := C.al x hx
 intro e
 rw [e, hk] at hj
 injection hj with hj
 rw [← hj, ak] at aj
 cases aj
theorem al_jk (C : Checks ops m als bls) {x y : AL} (hx : x ∈ als) (hy : y ∈ als) : x.j ≠ y.k := by
 obtain ⟨oj, _, hj, _, aj, _⟩ := C.al x hx
 obtain ⟨_, ok, _, hk, _, _, _, ak, _⟩ := C.al y hy
 intro e
 rw [e, hk] at hj
 injection hj with hj
 rw [← hj, ak] at aj
 cases aj
theorem al_jj : ∀ {als : List AL}, (als.map (·.j)).Nodup → ∀ {x y : AL}, x ∈ als → y ∈ als → x.j = y.j → x = y
 | [], _, _, _, hx, _, _ => by cases hx
 | z :: als, h, x, y, hx, hy, e => by
  rw [List.map_cons, List.nodup_cons] at h
  rcases List.mem_cons.1 hx with hx1 | hx1 <;> rcases List.mem_cons.1 hy with hy1 | hy1
  ·rw [hx1, hy1]
  ·exact (h.1 (List.mem_map.2 ⟨y, hy1, by rw [← e, hx1]⟩)).elim
  ·exact (h.1 (List.mem_map.2 ⟨x, hx1, by rw [e, hy1]⟩)).elim
  ·exact al_jj h.2 hx1 hy1 e
theorem al_kk (C : Checks ops m als bls) {x y : AL} (hx : x ∈ als) (hy : y ∈ als) (e : x.k = y.k) : x = y := by
 obtain ⟨oj, ok, hj, hk, _, _, dj, ak, _⟩ := C.al x hx
 obtain ⟨oj', ok', hj', hk', _, _, dj', ak', _⟩ := C.al y hy
 rw [e, hk'] at hk
 injection hk with hk
 rw [← hk, ak'] at ak
 injection ak with _ ak _
 injection ak with ak
 refine al_jj C.nd hx hy ?_
 by_cases h : x.j = y.j
 ·exact h
 ·exact absurd (by simp [dstOf, hj', dj', ak]) (C.dis x.j y.j h x.d (by simp [dstOf, hj, dj]))
end
end Go.Proofs.YtpfpamopmncifaaGreat
namespace Go.Proofs.YtpfpamopmncifaaGreat
open Go.RowKit Go.Sort
section
variable {P : Program} {ops : Array Oper} {w0 : World} {a0 : Act} {m : Nat} {als : List AL} {bls : List BL} {v : Nat → Value} {af : Act} {Q : Exit → Act → World → Prop}
theorem fin_fresh {w0 W : World} {π : Nat → Nat} : ∀ (als : List AL), (als.map (·.j)).Nodup →
  (∀ x ∈ als, w0.heap.size ≤ π x.j ∧ W.heap[π x.j]? = some (.cells (af.eval (stOpnd ops x.k)).cells x.T (0, 0))) → (∀ x ∈ als, ∀ y ∈ als, π x.j = π y.j → x.j = y.j) →
  Fresh ops w0 W af als (als.map fun x => π x.j)
 | [], _, _, _ => rfl
 | x :: als, hnd, h, hi => by
  rw [List.map_cons, List.nodup_cons] at hnd
  refine ⟨π x.j, als.map fun x => π x.j, rfl, (h x (by simp)).1, (h x (by simp)).2, ?_, fin_fresh als hnd.2 (fun y hy => h y (by simp [hy])) fun y hy z hz => hi y (by simp [hy]) z (by simp [hz])⟩
  intro hm
  obtain ⟨y, hy, e⟩ := List.mem_map.1 hm
  exact hnd.1 (List.mem_map.2 ⟨y, hy, hi y (by simp [hy]) x (by simp) e⟩)
def updAll (π : Nat → Nat) : List AL → (Nat → Option Value) → (Nat → Option Value)
 | [], vals => vals
 | x :: als, vals => updAll π als (upd vals x.j (.pointer (some ⟨π x.j, 0, none⟩)))
theorem updAll_out {π : Nat → Nat} : ∀ (als : List AL) (vals : Nat → Option Value) (i : Nat), (∀ x ∈ als, x.j ≠ i) → updAll π als vals i = vals i
 | [], _, _, _ => rfl
 | x :: als, vals, i, h => by
  unfold updAll
  rw [updAll_out als _ i fun y hy => h y (by simp [hy])]
  exact if_neg fun e => h x (by simp) e.symm
theorem updAll_in {π : Nat → Nat} : ∀ (als : List AL) (vals : Nat → Option Value), (als.map (·.j)).Nodup → ∀ x ∈ als, updAll π als vals x.j = some (.pointer (some ⟨π x.j, 0, none⟩))
 | [], _, _, _, h => by cases h
 | y :: als, vals, hnd, x, h => by
  rw [List.map_cons, List.nodup_cons] at hnd
  unfold updAll
  rcases List.mem_cons.1 h with rfl | h
  ·rw [updAll_out als _ _ fun z hz e => hnd.1 (List.mem_map.2 ⟨z, hz, e⟩)]
   exact if_pos rfl
  ·exact updAll_in als _ hnd.2 x h
theorem putAll_eq (hD : Distinct ops) {π : Nat → Nat} : ∀ (als : List AL) (vals : Nat → Option Value), (als.map (·.j)).Nodup → (∀ x ∈ als, vals x.j = none ∧ x.j < ops.size ∧ dstOf ops x.j = some x.d) →
  actOf ops a0 (updAll π als vals) = putAll als (als.map fun x => π x.j) (actOf ops a0 vals)
 | [], _, _, _ => rfl
 | x :: als, vals, hnd, h => by
  rw [List.map_cons, List.nodup_cons] at hnd
  obtain ⟨h1, h2, h3⟩ := h x (by simp)
  unfold updAll
  rw [List.map_cons]
  unfold putAll
  rw [putAll_eq hD als _ hnd.2, actOf_upd hD h1 h2, h3]
  intro y hy
  obtain ⟨g1, g2, g3⟩ := h y (by simp [hy])
  refine ⟨?_, g2, g3⟩
  unfold upd
  rw [if_neg (fun e => hnd.1 (List.mem_map.2 ⟨y, hy, e⟩))]
  exact g1
def updB (π : Nat → Nat) : List BL → (Nat → Option Value) → (Nat → Option Value)
 | [], vals => vals
 | y :: bls, vals => updB π bls (upd vals y.j (.slice (some ⟨π y.j, 0, none⟩) y.n y.n))
theorem updB_out {π : Nat → Nat} : ∀ (bls : List BL) (vals : Nat → Option Value) (i : Nat), (∀ y ∈ bls, y.j ≠ i) → updB π bls vals i = vals i
 | [], _, _, _ => rfl
 | y :: bls, vals, i, h => by
  unfold updB
  rw [updB_out bls _ i fun z hz => h z (by simp [hz])]
  exact if_neg fun e => h y (by simp) e.symm
theorem updB_in {π : Nat → Nat} : ∀ (bls : List BL) (vals : Nat → Option Value), (bls.map (·.j)).Nodup → ∀ y ∈ bls, updB π bls vals y.j = some (.slice (some ⟨π y.j, 0, none⟩) y.n y.n)
 | [], _, _, _, h => by cases h
 | z :: bls, vals, hnd, y, h => by
  rw [List.map_cons, List.nodup_cons] at hnd
  unfold updB
  rcases List.mem_cons.1 h with rfl | h
  ·rw [updB_out bls _ _ fun u hu e => hnd.1 (List.mem_map.2 ⟨u, hu, e⟩)]
   exact if_pos rfl
  ·exact updB_in bls _ hnd.2 y h
theorem putB_eq (hD : Distinct ops) {π : Nat → Nat} : ∀ (bls : List BL) (vals : Nat → Option Value), (bls.map (·.j)).Nodup → (∀ y ∈ bls, vals y.j = none ∧ y.j < ops.size ∧ dstOf ops y.j = some y.d) →
  actOf ops a0 (updB π bls vals) = putB bls (bls.map fun y => π y.j) (actOf ops a0 vals)
 | [], _, _, _ => rfl
 | y :: bls, vals, hnd, h => by
  rw [List.map_cons, List.nodup_cons] at hnd
  obtain ⟨h1, h2, h3⟩ := h y (by simp)
  unfold updB
  rw [List.map_cons]
  unfold putB
  rw [putB_eq hD bls _ hnd.2, actOf_upd hD h1 h2, h3]
  intro z hz
  obtain ⟨g1, g2, g3⟩ := h z (by simp [hz])
  refine ⟨?_, g2, g3⟩
  unfold upd
  rw [if_neg (fun e => hnd.1 (List.mem_map.2 ⟨z, hz, e⟩))]
  exact g1
theorem fin_freshB {w0 W : World} {π : Nat → Nat} : ∀ (bls : List BL), (∀ y ∈ bls, w0.heap.size ≤ π y.j ∧ W.heap[π y.j]? = some (.cells (y.cs af) y.e (0, 0))) → FreshB w0 W af bls (bls.map fun y => π y.j)
 | [], _ => rfl
 | y :: bls, h => ⟨π y.j, bls.map fun y => π y.j, rfl, (h y (by simp)).1, (h y (by simp)).2, fin_freshB bls fun z hz => h z (by simp [hz])⟩
theorem bl_al (C : Checks ops m als bls) {x : AL} {y : BL} (hx : x ∈ als) (hy : y ∈ bls) : x.j ≠ y.j ∧ x.k ≠ y.j := by
 obtain ⟨oj, ok, hj, hk, aj, _, _, ak, _⟩ := C.al x hx
 obtain ⟨_, o, ho, hb, _⟩ := C.bl y hy
 refine ⟨fun e => ?_, fun e => ?_⟩
 ·rw [e, ho] at hj
  injection hj with hj
  rw [hj] at hb
  simp [isBS, aj] at hb
 ·rw [e, ho] at hk
  injection hk with hk
  rw [hk] at hb
  simp [isBS, ak] at hb
theorem bl_q (C : Checks ops m als bls) {y : BL} (hy : y ∈ bls) : qRaw ops y.j = false := by
 obtain ⟨_, o, ho, hb, _⟩ := C.bl y hy
 unfold isBS at hb
 split at hb
 ·rename_i h
  simp [qRaw, ho, isQ, h]
 ·cases hb
/-- All of the first m listed: what is behind them. -/
theorem inv_end (C : Checks ops m als bls) {R : Act → World → Prop} {vals : Nat → Option Value} {π : Nat → Nat} {listed : Array Bool} {a : Act} {W : World} (I : Inv P ops m w0 a0 als bls v af vals π listed a W) (hall : ∀ j, j < m → listed.getD j false = true)
  (haf : af = actOf ops a0 (qv ops v m)) (hQ : ∀ ps qs W, Grew w0 W → Fresh ops w0 W af als ps → FreshB w0 W af bls qs → R (putB bls qs (putAll als ps af)) W) : R a W := by
 have hfr : Fresh ops w0 W af als (als.map fun x => π x.j) := by
  refine fin_fresh als C.nd ?_ ?_
  ·intro x hx
   have h := I.al x hx (hall _ (C.alm x hx).1)
   rw [hall _ (C.alm x hx).2, if_pos rfl] at h
   exact h.2
  ·intro x hx y hy e
   exact I.inj x hx y hy (hall _ (C.alm x hx).1) (hall _ (C.alm y hy).1) e
 have hfb : FreshB w0 W af bls (bls.map fun y => π y.j) := fin_freshB bls fun y hy => (I.bl y hy (hall _ (C.bl y hy).1)).2
 have := hQ _ _ W I.grew hfr hfb
 rw [haf, ← putAll_eq C.dis als _ C.nd, ← putB_eq C.dis bls _ C.bnd] at this
 ·rw [I.act]
  have e : actOf ops a0 (updB π bls (updAll π als (qv ops v m))) = actOf ops a0 vals := by
   refine putsOf_congr _ _ fun j hj hd => ?_
   have hjs := List.mem_range.1 hj
   by_cases hjm : j < m
   ·cases hq : qRaw ops j with
    | true =>
     rw [I.on j hjs hq (hall j hjm), updB_out bls _ j (fun y hy e => by rw [← e, bl_q C hy] at hq; cases hq), updAll_out als _ j]
     ·simp [qv, hjm, hq]
     ·intro x hx e
      obtain ⟨oj, _, hj', _, aj, _⟩ := C.al x hx
      rw [e] at hj'
      simp [qRaw, hj', isQ, aj] at hq
    | false =>
     have ho : ops[j]? = some ops[j] := Array.getElem?_eq_getElem hjs
     rcases C.nq j _ hjm ho (by simpa [qRaw, ho] using hq) with ⟨x, hx, hjk⟩ | ⟨y, hy, rfl⟩
     rotate_left
     ·rw [updB_in bls _ C.bnd y hy]
      exact (I.bl y hy (hall _ hjm)).1.symm
     rcases hjk with rfl | rfl
     ·rw [updB_out bls _ _ (fun y hy e => (bl_al C hx hy).1 e.symm), updAll_in als _ C.nd x hx]
      exact (I.al x hx (hall _ hjm)).1.symm
     ·obtain ⟨_, ok, _, hk, _, _, _, _, _, dk, _⟩ := C.al x hx
      exact absurd (by simp [dstOf, hk, dk]) hd
   ·rw [I.off j (I.main j (by omega)), updB_out bls _ j (fun y hy e => by have := (C.bl y hy).1; omega), updAll_out als _ j]
    ·simp [qv, hjm]
    ·intro x hx e
     have := (C.alm x hx).1
     omega
  rw [← e]
  exact this
 ·intro y hy
  obtain ⟨_, o, ho, _, _, dy, _⟩ := C.bl y hy
  refine ⟨?_, (Array.getElem?_eq_some_iff.1 ho).1, by simp [dstOf, ho, dy]⟩
  rw [updAll_out als _ _ (fun x hx => (bl_al C hx hy).1)]
  simp [qv, bl_q C hy]
 ·intro x hx
  obtain ⟨oj, _, hj, _, aj, _, dj, _⟩ := C.al x hx
  refine ⟨?_, (Array.getElem?_eq_some_iff.1 hj).1, by simp [dstOf, hj, dj]⟩
  simp [qv, qRaw, hj, isQ, aj]
/-- The operations that come behind all others, in the text's order. -/
theorem any_tail (C : Checks ops m als bls) : ∀ (tl : List Oper) (k : Nat) (listed : Array Bool) (a : Act) (W : World) (fuel : Nat), m ≤ k → (∀ i, tl[i]? = ops[k + i]?) → listed.size = ops.size →
  (∀ j, listed.getD j false = true ↔ (j < k ∧ j < ops.size)) → tl.length ≤ fuel → wpList P ops Q tl a W → wpAny P .any ops Q fuel listed a W
 | [], k, listed, a, W, fuel, _, ht, hs, hl, _, h => by
  have hnone : ops[k]? = none := by simpa using (ht 0).symm
  have hkn : ops.size ≤ k := by simpa using hnone
  have hr : Region.ready .any ops listed = [] := by
   cases hc : Region.ready .any ops listed with
   | nil => rfl
   | cons i rest =>
    have hi : i ∈ Region.ready .any ops listed := by rw [hc]; simp
    have h1 := ready_lt hi
    have h2 := (hl i).2 ⟨by omega, h1.1⟩
    have hs' : i < listed.size := by rw [hs]; exact h1.1
    have h3 := h1.2
    simp [hs'] at h2 h3
    rw [h2] at h3
    cases h3
  cases fuel with
  | zero => exact ⟨hr, h⟩
  | succ f => exact ⟨fun _ => h, fun i hi => by rw [hr] at hi; cases hi⟩
 | o :: tl, k, listed, a, W, 0, _, _, _, _, hf, _ => by simp at hf
 | o :: tl, k, listed, a, W, fuel + 1, hmk, ht, hs, hl, hf, h => by
  have h0 : ops[k]? = some o := by simpa using (ht 0).symm
  have hk : k < ops.size := (Array.getElem?_eq_some_iff.1 h0).1
  have hkoff : listed.getD k false = false := by
   cases hc : listed.getD k false with
   | false => rfl
   | true => have := (hl k).1 hc; omega
  have hks : k < listed.size := by omega
  have hkr : k ∈ Region.ready .any ops listed := by
   refine mem_ready.2 ⟨by simp [hks] at hkoff ⊢; exact hkoff, o, h0, fun e he hb => ?_⟩
   have := C.lex k o e h0 he hb
   exact (hl e.on).2 ⟨this, by omega⟩
  refine ⟨fun hn => (by rw [hn] at hkr; cases hkr), fun i hi => ?_⟩
  have hil := ready_lt hi
  have hik : i = k := by
   have hioff : listed.getD i false = false := by
    have his : i < listed.size := by omega
    have := hil.2
    simp [his] at this ⊢
    exact this
   rcases Nat.lt_trichotomy i k with h1 | h1 | h1
   ·rw [(hl i).2 ⟨h1, hil.1⟩] at hioff
    cases hioff
   ·exact h1
   ·obtain ⟨f, hf⟩ := C.tl i _ (by omega) (Array.getElem?_eq_getElem hil.1) k h1
    have := befT_listed (fun a b ha hb => (hl b).2 (by have := (hl a).1 ha; have := bef_lt C hb; omega)) f (.inl hi) hf
    rw [hkoff] at this
    cases this
  subst hik
  have next : ∀ a' W', wpList P ops Q tl a' W' → wpAny P .any ops Q fuel (listed.setIfInBounds i true) a' W' := fun a' W' h' => by
   refine any_tail C tl (i + 1) _ a' W' fuel (by omega) (fun q => by have := ht (q + 1); simpa [Nat.add_assoc, Nat.add_comm 1 q] using this) (by simp [hs]) ?_ (by simpa using hf) h'
   intro j
   by_cases hji : i = j
   ·subst hji
    rw [getD_set_self hks]
    simp [hk]
   ·rw [getD_set_other hji, hl j]
    omega
  unfold wpOp
  simp only [h0]
  unfold wpList at h
  by_cases hw : Region.wanted o (yielded ops a.tmps) = true
  ·rw [if_pos hw] at h ⊢
   exact h.imp (Oper.wp_mono next) id
  ·rw [if_neg hw] at h ⊢
   exact next _ _ h
end
end Go.Proofs.YtpfpamopmncifaaGreat
namespace Go.Proofs.YtpfpamopmncifaaGreat
open Go.RowKit Go.Sort
section
variable {P : Program} {ops : Array Oper} {w0 : World} {a0 : Act} {m : Nat} {als : List AL} {bls : List BL} {v : Nat → Value} {af : Act} {Q : Exit → Act → World → Prop}
theorem Grew.heap {w w' : World} (h : Grew w w') {k : Nat} (hk : k < w.heap.size) : w'.heap[k]? = w.heap[k]? := h.below.block k hk
theorem put_size (a : Act) (d : Option Tmp) (u : Value) : (a.put d u).tmps.size = a.tmps.size := by cases d <;> simp [Act.put]
theorem putsOf_size {vals : Nat → Option Value} : ∀ (l : List Nat) (a : Act), (putsOf ops vals l a).tmps.size = a.tmps.size
 | [], _ => rfl
 | k :: l, a => by
  unfold putsOf
  rw [putsOf_size l]
  cases vals k with
  | none => rfl
  | some u => exact put_size _ _ _
theorem actOf_at (hD : Distinct ops) {vals : Nat → Option Value} {j : Nat} {d : Tmp} {u : Value} (hj : j < ops.size) (hd : dstOf ops j = some d) (hu : vals j = some u) (hs : d < a0.tmps.size) : (actOf ops a0 vals).eval (.tmp d) = u := by
 have e : vals = upd (fun k => if k = j then none else vals k) j u := by
  funext k
  unfold upd
  by_cases hk : k = j
  ·subst hk; simp [hu]
  ·simp [hk]
 rw [e, actOf_upd hD (by simp) hj, hd]
 have hsz : d < (actOf ops a0 fun k => if k = j then none else vals k).tmps.size := by unfold actOf; rw [putsOf_size]; exact hs
 simp [Act.eval, Act.put, hsz]
theorem bl_jj : ∀ {bls : List BL}, (bls.map (·.j)).Nodup → ∀ {x y : BL}, x ∈ bls → y ∈ bls → x.j = y.j → x = y
 | [], _, _, _, hx, _, _ => by cases hx
 | z :: bls, h, x, y, hx, hy, e => by
  rw [List.map_cons, List.nodup_cons] at h
  rcases List.mem_cons.1 hx with hx1 | hx1 <;> rcases List.mem_cons.1 hy with hy1 | hy1
  ·rw [hx1, hy1]
  ·exact (h.1 (List.mem_map.2 ⟨y, hy1, by rw [← e, hx1]⟩)).elim
  ·exact (h.1 (List.mem_map.2 ⟨x, hx1, by rw [e, hy1]⟩)).elim
  ·exact bl_jj h.2 hx1 hy1 e
theorem any_qas (C : Checks ops m als bls) (hmn : m ≤ ops.size) (tl : List Oper) (htl : ∀ i, tl[i]? = ops[m + i]?) (hsl : ∀ x ∈ als, x.d < a0.tmps.size) (hZ : ZOk P als) (hS : StOk ops af als) (haf : af = actOf ops a0 (qv ops v m))
  (hv : ∀ i o, i < m → ops[i]? = some o → isQ o = true → YS P ops w0 o (v i) (actOf ops a0 (qv ops v i))) (hL : LyOk P ops af bls) (hQ : ∀ ps qs W, Grew w0 W → Fresh ops w0 W af als ps → FreshB w0 W af bls qs → wpList P ops Q tl (putB bls qs (putAll als ps af)) W) :
  ∀ (fuel : Nat) (vals : Nat → Option Value) (π : Nat → Nat) (listed : Array Bool) (a : Act) (W : World), Inv P ops m w0 a0 als bls v af vals π listed a W → cnt (fun j => listed.getD j false) ops.size ≤ fuel →
   wpAny P .any ops Q fuel listed a W := by
 have htll : tl.length = ops.size - m := by
  have h1 : ∀ i, i < tl.length ↔ m + i < ops.size := fun i => by
   have := htl i
   constructor
   ·intro h
    rw [List.getElem?_eq_getElem h] at this
    exact (Array.getElem?_eq_some_iff.1 this.symm).1
   ·intro h
    rw [Array.getElem?_eq_getElem h] at this
    exact (List.getElem?_eq_some_iff.1 this).1
  have h2 := h1 (ops.size - m)
  have h3 := h1 tl.length
  by_cases hlt : tl.length < ops.size - m
  ·omega
  ·by_cases hgt : ops.size - m < tl.length <;> omega
 have hfin : ∀ (fuel : Nat) (vals : Nat → Option Value) (π : Nat → Nat) (listed : Array Bool) (a : Act) (W : World), Inv P ops m w0 a0 als bls v af vals π listed a W → cnt (fun j => listed.getD j false) ops.size ≤ fuel →
   (∀ j, j < m → listed.getD j false = true) → wpAny P .any ops Q fuel listed a W := by
  intro fuel vals π listed a W I hc hall
  have hlist : ∀ j, listed.getD j false = true ↔ (j < m ∧ j < ops.size) := fun j => by
   by_cases hj : j < m
   ·simp only [hall j hj, hj, true_and, true_iff]
    omega
   ·have := I.main j (by omega)
    rw [this]
    simp [hj]
  refine any_tail C tl m listed a W fuel (Nat.le_refl _) htl I.size hlist ?_ (inv_end C I hall haf hQ)
  rw [htll]
  have : ∀ n, m ≤ n → cnt (fun j => listed.getD j false) n = n - m := by
   intro n
   induction n with
   | zero => intro h; simp [cnt]
   | succ n ih =>
    intro h
    unfold cnt
    by_cases hn : m ≤ n
    ·rw [ih hn, I.main n hn]
     simp
     omega
    ·have hmn : m = n + 1 := by omega
     rw [if_pos (hall n (by omega))]
     have hz : ∀ q, q ≤ n → cnt (fun j => listed.getD j false) q = 0 := by
      intro q
      induction q with
      | zero => intro _; rfl
      | succ q ihq => intro hq; unfold cnt; rw [ihq (by omega), if_pos (hall q (by omega))]
     rw [hz n (Nat.le_refl _)]
     omega
  rw [this _ hmn] at hc
  exact hc
 intro fuel
 induction fuel with
 | zero =>
  intro vals π listed a W I hc
  have hall := cnt_zero _ (by omega : cnt (fun j => listed.getD j false) ops.size = 0)
  exact hfin 0 vals π listed a W I hc fun j hj => hall j (by omega)
 | succ fuel ih =>
  intro vals π listed a W I hc
  by_cases hall : ∀ j, j < m → listed.getD j false = true
  ·exact hfin _ vals π listed a W I hc hall
  have hmain : ∀ i, i ∈ Region.ready .any ops listed → i < m := fun i hr => by
   rcases Nat.lt_or_ge i m with h | h
   ·exact h
   ·exact (hall fun j hj => (C.tl i _ h (Array.getElem?_eq_getElem (ready_lt hr).1) j (by omega)).elim fun f hf => befT_listed I.down f (.inl hr) hf).elim
  refine ⟨fun h0 => ?_, fun i hr => ?_⟩
  ·exfalso
   refine hall fun j => ?_
   induction j using Nat.strongRecOn with
   | ind k ihk =>
    intro hk
    by_cases hl : listed.getD k false = true
    ·exact hl
    ·exfalso
     have hkn : k < ops.size := by omega
     have : k ∈ Region.ready .any ops listed := by
      refine mem_ready.2 ⟨?_, ops[k], Array.getElem?_eq_getElem hkn, fun e he hb => ?_⟩
      ·have hs : k < listed.size := by rw [I.size]; exact hkn
       simp [hs] at hl ⊢
       exact hl
      ·have hlt := C.lex k _ e (Array.getElem?_eq_getElem hkn) he hb
       exact ihk e.on hlt (by omega)
     rw [h0] at this
     cases this
  have him := hmain i hr
  have hlt := (ready_lt hr).1
  have hoff := ready_off I hr
  have his : i < listed.size := by rw [I.size]; exact hlt
  have hcnt : cnt (fun j => (listed.setIfInBounds i true).getD j false) ops.size ≤ fuel := by
   have := cnt_set (f := fun j => listed.getD j false) (g := fun j => (listed.setIfInBounds i true).getD j false) hoff (getD_set_self his) (fun j hj => getD_set_other (fun e => hj e.symm)) ops.size hlt
   omega
  have ho : ops[i]? = some ops[i] := Array.getElem?_eq_getElem hlt
  generalize ops[i] = o at ho
  unfold wpOp
  simp only [ho]
  cases hq : isQ o with
  | true =>
   have hag := agree C I him hr ho hq
   have hex : execOp a.eval o = execOp (actOf ops a0 (qv ops v i)).eval o := by rw [I.act]; exact actOf_exec (C.noSel i o · · ho) hag
   have hwa : Region.wanted o (yielded ops a.tmps) = Region.wanted o (yielded ops (actOf ops a0 (qv ops v i)).tmps) := by rw [I.act]; exact actOf_wanted hag
   have hqa : qRaw ops i = true := by simp [qRaw, ho, hq]
   have step : ∀ W', Grew W W' → wpAny P .any ops Q fuel (listed.setIfInBounds i true) (a.put o.dst (v i)) W' := by
    intro W' hg
    have hnb : ∀ y ∈ bls, i ≠ y.j := by
     rintro y hy rfl
     have := bl_q C hy
     rw [this] at hqa
     cases hqa
    refine ih _ π _ _ _ (inv_step C I him hr ho (fun _ => rfl) (I.grew.trans hg) ?_ ?_ ?_ ?_) hcnt
    rotate_left
    rotate_left
    ·intro y hy hl
     rw [getD_set_other (hnb y hy)] at hl
     obtain ⟨h1, h2, h3⟩ := I.bl y hy hl
     refine ⟨by unfold upd; rw [if_neg (fun e => hnb y hy e.symm)]; exact h1, h2, ?_⟩
     rw [hg.heap (Array.getElem?_eq_some_iff.1 h3).1]
     exact h3
    ·intro x hx y hy hl hl'
     rw [getD_set_other (hnb y hy)] at hl'
     by_cases hix : i = x.j
     ·obtain ⟨oj, ok, hj, hk, aj, _⟩ := C.al x hx
      rw [← hix, ho] at hj
      injection hj with hj
      rw [hj] at hq
      simp [isQ, aj] at hq
     ·rw [getD_set_other hix] at hl
      exact I.inb x hx y hy hl hl'
    ·intro x hx hl
     obtain ⟨oj, ok, hj, hk, aj, _, _, ak, _, _, hb⟩ := C.al x hx
     have hji : i ≠ x.j := by
      rintro rfl
      rw [ho] at hj
      injection hj with hj
      rw [hj] at hq
      simp [isQ, aj] at hq
     have hki : i ≠ x.k := by
      rintro rfl
      rw [ho] at hk
      injection hk with hk
      rw [hk] at hq
      simp [isQ, ak] at hq
     rw [getD_set_other hji] at hl
     rw [getD_set_other hki]
     obtain ⟨h1, h2, h3⟩ := I.al x hx hl
     refine ⟨by unfold upd; rw [if_neg (fun e => hji e.symm)]; exact h1, h2, ?_⟩
     rw [hg.heap (Array.getElem?_eq_some_iff.1 h3).1]
     exact h3
    ·intro x hx y hy hl hl' e
     have hne : ∀ z ∈ als, i ≠ z.j := by
      intro z hz e'
      obtain ⟨oj, _, hj, _, aj, _⟩ := C.al z hz
      rw [← e', ho] at hj
      injection hj with hj
      rw [hj] at hq
      simp [isQ, aj] at hq
     rw [getD_set_other (hne x hx)] at hl
     rw [getD_set_other (hne y hy)] at hl'
     exact I.inj x hx y hy hl hl' e
   rw [hwa]
   rcases hv i o him ho hq with ⟨hw, hst⟩ | ⟨hw, hu⟩
   ·rw [if_pos hw]
    left
    obtain ⟨p, hp⟩ := I.grew
    have hs := hst p
    rw [← hp, ← hex] at hs
    unfold Oper.wp
    generalize (execOp a.eval o).run P W = r at hs
    cases r with
    | ok n w' =>
     cases n <;> simp only [steadyUpon] at hs <;> simp only [Oper.upon]
     case value u => obtain ⟨rfl, rfl⟩ := hs; exact step _ (Grew.refl _)
     case skip => obtain ⟨rfl, e⟩ := hs; rw [← e]; exact step _ (Grew.refl _)
     case enter f args =>
      obtain ⟨rfl, hc⟩ := hs
      exact hc.mono fun e w'' ⟨he, hg⟩ => by subst he; exact step _ hg
    | halt x w' => simp only [steadyUpon] at hs
   ·rw [if_neg (by rw [hw]; simp), ← hu]
    exact step _ (Grew.refl _)
  | false =>
   rcases C.nq i o him ho hq with ⟨x, hx, hjk⟩ | ⟨y, hy, rfl⟩
   rotate_left
   ·-- a slice literal
    obtain ⟨_, ob, hob, _, gb, db, hlk⟩ := C.bl y hy
    obtain rfl : ob = o := by rw [hob] at ho; injection ho
    rw [if_pos (by simp [Region.wanted, gb])]
    have hex : execOp a.eval ob = execOp af.eval ob := by
     rw [I.act, haf]
     refine actOf_exec (C.noSel y.j ob · · hob) fun t ht j hj hd => ?_
     obtain ⟨hbj, hqj⟩ := hlk t ht j hj hd
     rw [I.on j hj hqj (bef_of_ready hr hbj)]
     have hjm : j < m := Nat.lt_trans (bef_lt C hbj) him
     simp [qv, hjm, hqj]
    left
    unfold Oper.wp
    rw [hex, hL y hy ob hob W]
    simp only [Oper.upon]
    refine ih _ (fun n => if n = y.j then W.heap.size else π n) _ _ _ (inv_step C I him hr hob (fun h => by simp [qRaw, hob, hq] at h) (I.grew.alloc _) ?_ ?_ ?_ ?_) hcnt
    ·intro x hx hl
     obtain ⟨n1, n2⟩ := bl_al C hx hy
     rw [getD_set_other (fun e => n1 e.symm)] at hl
     rw [getD_set_other (fun e => n2 e.symm)]
     obtain ⟨h1, h2, h3⟩ := I.al x hx hl
     refine ⟨by unfold upd; rw [if_neg n1, if_neg n1]; exact h1, by rw [if_neg n1]; exact h2, ?_⟩
     rw [if_neg n1, heap_alloc_old W _ (Array.getElem?_eq_some_iff.1 h3).1]
     exact h3
    ·intro x hx z hz hl hl' e
     have n1 := (bl_al C hx hy).1
     have n2 := (bl_al C hz hy).1
     rw [getD_set_other (fun e => n1 e.symm)] at hl
     rw [getD_set_other (fun e => n2 e.symm)] at hl'
     rw [if_neg n1, if_neg n2] at e
     exact I.inj x hx z hz hl hl' e
    ·intro z hz hl
     by_cases hzy : z.j = y.j
     ·obtain rfl := bl_jj C.bnd hz hy hzy
      refine ⟨by unfold upd; simp, ?_, ?_⟩
      ·rw [if_pos rfl]
       exact I.grew.below.size
      ·rw [if_pos rfl]
       exact heap_alloc_new W _
     ·rw [getD_set_other (fun e => hzy e.symm)] at hl
      obtain ⟨h1, h2, h3⟩ := I.bl z hz hl
      refine ⟨by unfold upd; rw [if_neg hzy, if_neg hzy]; exact h1, by rw [if_neg hzy]; exact h2, ?_⟩
      rw [if_neg hzy, heap_alloc_old W _ (Array.getElem?_eq_some_iff.1 h3).1]
      exact h3
    ·intro x hx z hz hl hl'
     have n1 := (bl_al C hx hy).1
     rw [getD_set_other (fun e => n1 e.symm)] at hl
     rw [if_neg n1]
     by_cases hzy : z.j = y.j
     ·rw [if_pos hzy]
      have := (Array.getElem?_eq_some_iff.1 (I.al x hx hl).2.2).1
      omega
     ·rw [if_neg hzy]
      rw [getD_set_other (fun e => hzy e.symm)] at hl'
      exact I.inb x hx z hz hl hl'
   obtain ⟨oj, ok, hj, hk, aj, gj, dj, ak, gk, dk, hb⟩ := C.al x hx
   rcases hjk with rfl | rfl
   ·-- the new variable is laid
    obtain rfl : oj = o := by rw [hj] at ho; injection ho
    rw [if_pos (by simp [Region.wanted, gj])]
    left
    unfold Oper.wp
    rw [run_alloc_op aj ((hZ x hx).1 W)]
    simp only [Oper.upon]
    have hxk : listed.getD x.k false = false := by
     cases h : listed.getD x.k false with
     | false => rfl
     | true => rw [I.down _ _ h hb] at hoff; cases hoff
    refine ih _ (fun n => if n = x.j then W.heap.size else π n) _ _ _ (inv_step C I him hr hj (fun h => by simp [qRaw, hj, hq] at h) (I.grew.alloc _) ?_ ?_ ?_ ?_) hcnt
    rotate_left
    rotate_left
    ·intro z hz hl
     have n1 := (bl_al C hx hz).1
     rw [getD_set_other n1] at hl
     obtain ⟨h1, h2, h3⟩ := I.bl z hz hl
     refine ⟨by unfold upd; rw [if_neg (fun e => n1 e.symm), if_neg (fun e => n1 e.symm)]; exact h1, by rw [if_neg (fun e => n1 e.symm)]; exact h2, ?_⟩
     rw [if_neg (fun e => n1 e.symm), heap_alloc_old W _ (Array.getElem?_eq_some_iff.1 h3).1]
     exact h3
    ·intro y hy z hz hl hl'
     have n1 := (bl_al C hx hz).1
     rw [getD_set_other n1] at hl'
     have n3 : ¬ z.j = x.j := fun e => n1 e.symm
     by_cases hyx : y.j = x.j
     ·rw [if_pos hyx, if_neg n3]
      have := (Array.getElem?_eq_some_iff.1 (I.bl z hz hl').2.2).1
      omega
     ·rw [if_neg hyx, if_neg n3]
      rw [getD_set_other (fun e => hyx e.symm)] at hl
      exact I.inb y hy z hz hl hl'
    ·intro y hy hl
     rw [getD_set_other (al_jk C hx hy)]
     by_cases hyx : y.j = x.j
     ·obtain rfl := al_jj C.nd hy hx hyx
      rw [hxk]
      refine ⟨by unfold upd; simp, ?_, ?_⟩
      ·rw [if_pos rfl]
       exact I.grew.below.size
      ·rw [if_pos rfl]
       simpa using heap_alloc_new W (.cells y.z.cells y.T)
     ·rw [getD_set_other (fun e => hyx e.symm)] at hl
      obtain ⟨h1, h2, h3⟩ := I.al y hy hl
      refine ⟨by unfold upd; rw [if_neg hyx, if_neg hyx]; exact h1, by rw [if_neg hyx]; exact h2, ?_⟩
      rw [if_neg hyx, heap_alloc_old W _ (Array.getElem?_eq_some_iff.1 h3).1]
      exact h3
    ·intro y hy z hz hl hl' e
     by_cases hyx : y.j = x.j <;> by_cases hzx : z.j = x.j
     ·rw [hyx, hzx]
     ·exfalso
      rw [if_pos hyx, if_neg hzx] at e
      rw [getD_set_other (fun e => hzx e.symm)] at hl'
      have := (Array.getElem?_eq_some_iff.1 (I.al z hz hl').2.2).1
      omega
     ·exfalso
      rw [if_neg hyx, if_pos hzx] at e
      rw [getD_set_other (fun e => hyx e.symm)] at hl
      have := (Array.getElem?_eq_some_iff.1 (I.al y hy hl).2.2).1
      omega
     ·rw [if_neg hyx, if_neg hzx] at e
      rw [getD_set_other (fun e => hyx e.symm)] at hl
      rw [getD_set_other (fun e => hzx e.symm)] at hl'
      exact I.inj y hy z hz hl hl' e
   ·-- it is stored into
    obtain rfl : ok = o := by rw [hk] at ho; injection ho
    have hjl : listed.getD x.j false = true := bef_of_ready hr hb
    obtain ⟨h1, h2, h3⟩ := I.al x hx hjl
    rw [hoff] at h3
    simp only [Bool.false_eq_true, if_false] at h3
    have hjs : x.j < ops.size := (Array.getElem?_eq_some_iff.1 hj).1
    have hptr : a.eval (.tmp x.d) = .pointer (some ⟨π x.j, 0, none⟩) := by
     rw [I.act]
     exact actOf_at C.dis hjs (by simp [dstOf, hj, dj]) h1 (hsl x hx)
    have hval : a.eval (stOpnd ops x.k) = af.eval (stOpnd ops x.k) := by
     rw [I.act, haf]
     refine actOf_eval fun t ht j hjn hd => ?_
     obtain ⟨hbj, hqj⟩ := C.st x hx t ht j hjn hd
     rw [I.on j hjn hqj (bef_of_ready hr hbj)]
     have hjm : j < m := Nat.lt_trans (bef_lt C hbj) him
     simp [qv, hjm, hqj]
    rw [if_pos (by simp [Region.wanted, gk])]
    left
    unfold Oper.wp
    rw [run_store_op ak hptr hval ((hZ x hx).2 W) (hS x hx).1 (hS x hx).2 h3]
    simp only [Oper.upon]
    refine ih _ π _ _ _ (inv_step C I him hr hk (fun h => by simp [qRaw, hk, hq] at h) (I.grew.setRow h2 _) ?_ ?_ ?_ ?_) hcnt
    rotate_left
    rotate_left
    ·intro z hz hl
     obtain ⟨n1, n2⟩ := bl_al C hx hz
     rw [getD_set_other n2] at hl
     obtain ⟨g1, g2, g3⟩ := I.bl z hz hl
     refine ⟨by unfold upd; rw [if_neg (fun e => n2 e.symm)]; exact g1, g2, ?_⟩
     rw [heap_setRow_ne (I.inb x hx z hz hjl hl)]
     exact g3
    ·intro y hy z hz hl hl'
     rw [getD_set_other (bl_al C hx hz).2] at hl'
     rw [getD_set_other (fun e => al_jk C hy hx e.symm)] at hl
     exact I.inb y hy z hz hl hl'
    ·intro y hy hl
     rw [getD_set_other (fun e => al_jk C hy hx e.symm)] at hl
     obtain ⟨g1, g2, g3⟩ := I.al y hy hl
     refine ⟨by unfold upd; rw [if_neg (al_jk C hy hx)]; exact g1, g2, ?_⟩
     by_cases hyx : y.j = x.j
     ·obtain rfl := al_jj C.nd hy hx hyx
      rw [getD_set_self his, if_pos rfl]
      exact heap_setRow_same h3
     ·have hk' : x.k ≠ y.k := fun e => hyx (by rw [al_kk C hy hx e.symm])
      rw [getD_set_other hk', heap_setRow_ne (fun e => hyx (I.inj y hy x hx hl hjl e.symm))]
      exact g3
    ·intro y hy z hz hl hl' e
     rw [getD_set_other (fun e => al_jk C hy hx e.symm)] at hl
     rw [getD_set_other (fun e => al_jk C hz hx e.symm)] at hl'
     exact I.inj y hy z hz hl hl' e
theorem fresh_drew {w W : World} {a : Act} : ∀ (als : List AL) (ps : List Nat), Fresh ops w.drew W a als ps → Fresh ops w W a als ps
 | [], _, h => h
 | _ :: als, _, ⟨p, ps', h1, h2, h3, h4, h5⟩ => ⟨p, ps', h1, h2, h3, h4, fresh_drew als ps' h5⟩
theorem freshB_drew {w W : World} {a : Act} : ∀ (bls : List BL) (ps : List Nat), FreshB w.drew W a bls ps → FreshB w W a bls ps
 | [], _, h => h
 | _ :: bls, _, ⟨p, ps', h1, h2, h3, h5⟩ => ⟨p, ps', h1, h2, h3, freshB_drew bls ps' h5⟩
theorem cnt_le (f : Nat → Bool) : ∀ n, cnt f n ≤ n
 | 0 => Nat.le_refl _
 | n + 1 => by unfold cnt; have := cnt_le f n; split <;> omega
theorem rq0 {w0 w : World} {l tl : List Oper} {a : Act} (h : ∀ n os, wpList P l.toArray Q tl a (Sort.grow (dr w n) os)) : wpSteady P l.toArray w0 (fun af => StOk l.toArray af [] ∧ LyOk P l.toArray af [] ∧ ∀ ps qs W, Grew w W → Fresh l.toArray w W af [] ps → FreshB w W af [] qs → wpList P l.toArray Q tl (putB [] qs (putAll [] ps af)) W) [] a := by
 refine wpSteady_nil ⟨(fun _ h => by cases h), (fun _ h => by cases h), ?_⟩
 rintro ps qs W ⟨⟨n, os⟩, rfl⟩ hF hB
 obtain rfl : ps = [] := hF
 obtain rfl : qs = [] := hB
 exact h n os
theorem wp_region_qas {id : Nat} {w : World} {l qs tl : List Oper} (m : Nat) (als : List AL) (bls : List BL) (hm : P.follows .mixedOrders = true) (hB : (qasB l.toArray m als bls && decide (m ≤ l.length)) = true := by kernel_rfl) (hqs : (l.take m).filter isQ = qs := by simp only [List.take, List.filter, isQ]; rfl) (htl : l.drop m = tl := by simp only [List.drop]; rfl) (hZ : ZOk P als := by exact ZOk.nil) (hsl : ∀ x ∈ als, x.d < a0.tmps.size := by simp)
  (h : wpSteady P l.toArray w.drew (fun af => StOk l.toArray af als ∧ LyOk P l.toArray af bls ∧ ∀ ps qs W, Grew w W → Fresh l.toArray w W af als ps → FreshB w W af bls qs → wpList P l.toArray Q tl (putB bls qs (putAll als ps af)) W) qs a0) : (Code.region id l.toArray true).wp P Q a0 w := by
 rw [Bool.and_eq_true, decide_eq_true_eq] at hB
 have C := checks_of hB.1
 have hml := hB.2
 subst hqs
 subst htl
 have e0 : actOf l.toArray a0 (qv l.toArray (fun _ => undef) 0) = a0 := by
  have : ∀ (ks : List Nat) (a : Act), putsOf l.toArray (qv l.toArray (fun _ => undef) 0) ks a = a := by
   intro ks
   induction ks with
   | nil => intro a; rfl
   | cons k ks ih => intro a; unfold putsOf; simp only [qv, Nat.not_lt_zero, false_and, if_false]; exact ih a
  exact this _ _
 rw [← e0] at h
 have htk : ∀ i, i < (l.take m).length → (l.take m)[i]? = l.toArray[0 + i]? := fun i hi => by
  rw [List.length_take] at hi
  rw [List.getElem?_take_of_lt (by omega)]
  simp
 obtain ⟨v, _, hv, hS, hL, hQ⟩ := steady_split C.dis (l.take m) 0 _ htk h
 have hlen : (l.take m).length = m := by rw [List.length_take]; omega
 simp only [Nat.zero_add, hlen] at hv hS hL hQ
 have hl0 : ∀ j, (Array.replicate l.toArray.size false).getD j false = false := by intro j; by_cases h : j < l.length <;> simp [h]
 refine wp_region_any hm (any_qas (v := v) C (by simpa using hml) (l.drop m) (fun i => by simp) hsl hZ hS rfl (fun i o him ho hq => hv i o (by rw [List.getElem?_take_of_lt him]; simpa using ho) hq) hL (fun ps qs W hg hf hb => hQ ps qs W ((Grew.drew (Grew.refl w)).trans hg) (fresh_drew als ps hf) (freshB_drew bls qs hb)) _ (fun _ => none) (fun _ => 0) _ _ _ ?_ ?_)
 ·refine ⟨by simp, fun j _ => hl0 j, ?_, fun _ _ => rfl, ?_, Grew.refl _, ?_, ?_, ?_, ?_, ?_⟩
  ·have : ∀ (ks : List Nat) (a : Act), putsOf l.toArray (fun _ => none) ks a = a := by
    intro ks
    induction ks with
    | nil => intro a; rfl
    | cons k ks ih => intro a; unfold putsOf; exact ih a
   exact (this _ _).symm
  ·intro j _ _ h
   rw [hl0] at h
   cases h
  ·intro k j h
   rw [hl0] at h
   cases h
  ·intro x _ h
   rw [hl0] at h
   cases h
  ·intro x _ y _ h
   rw [hl0] at h
   cases h
  ·intro x _ h
   rw [hl0] at h
   cases h
  ·intro x _ y _ h
   rw [hl0] at h
   cases h
 ·exact cnt_le _ _
theorem ZOk.nil : ZOk P [] := fun _ h => by cases h
theorem ZOk.cons {x : AL} (h1 : ∀ W, (zeroValue x.T).run P W = .ok x.z W) (h2 : ∀ W, (sizeOf x.T).run P W = .ok x.z.cells.size W) (h : ZOk P als) : ZOk P (x :: als) := by
 intro y hy
 rcases List.mem_cons.1 hy with rfl | hy
 ·exact ⟨h1, h2⟩
 ·exact h y hy
theorem LyOk.nil : LyOk P ops af [] := fun _ h => by cases h
theorem LyOk.cons {y : BL} {o : Oper} (ho : ops[y.j]? = some o) (h1 : ∀ W : World, (execOp af.eval o).run P W = .ok (.value (.slice (some ⟨W.heap.size, 0, none⟩) y.n y.n)) (W.alloc (.cells (y.cs af) y.e))) (h : LyOk P ops af bls) : LyOk P ops af (y :: bls) := by
 intro z hz
 rcases List.mem_cons.1 hz with rfl | hz
 ·intro o' ho' W
  rw [ho] at ho'
  injection ho' with ho'
  rw [← ho']
  exact h1 W
 ·exact h z hz
theorem StOk.nil : StOk ops af [] := fun _ h => by cases h
theorem StOk.cons {x : AL} (h1 : (af.eval (stOpnd ops x.k)).cells.size = x.z.cells.size) (h2 : ∀ u ∈ (af.eval (stOpnd ops x.k)).cells.toList, u.oneCell' = true) (h : StOk ops af als) : StOk ops af (x :: als) := by
 intro y hy
 rcases List.mem_cons.1 hy with rfl | hy
 ·exact ⟨h1, h2⟩
 ·exact h y hy
theorem blk_cell {w : World} {p : Nat} {cs : Array Value} {T : TypeId} (h : w.heap[p]? = some (.cells cs T (0, 0))) (i : Nat) : w.cell? ⟨p, i, none⟩ = cs[i]? := cell_of_row w p i cs T (0, 0) h
theorem blk_frozen {w : World} {p : Nat} {cs : Array Value} {T : TypeId} (h : w.heap[p]? = some (.cells cs T (0, 0))) (i : Nat) : w.frozen? ⟨p, i, none⟩ = false := by simp [World.frozen?, h]
theorem blk_lt {w : World} {p : Nat} {o : Obj} (h : w.heap[p]? = some o) : p < w.heap.size := (Array.getElem?_eq_some_iff.1 h).1
theorem old_cell {w w' : World} (h : Grew w w') : ∀ b i, b < w.heap.size → w'.cell? ⟨b, i, none⟩ = w.cell? ⟨b, i, none⟩ := fun b i hb => h.below.cell (p := ⟨b, i, none⟩) hb
theorem old_frozen {w w' : World} (h : Grew w w') : ∀ b i, b < w.heap.size → w'.frozen? ⟨b, i, none⟩ = w.frozen? ⟨b, i, none⟩ := fun b i hb => h.below.frozen (p := ⟨b, i, none⟩) hb
theorem old_lt {w w' : World} (h : Grew w w') : ∀ b, b < w.heap.size → (b < w'.heap.size) = True := fun b hb => by have := h.below.size; simp; omega
end
end Go.Proofs.YtpfpamopmncifaaGreat
