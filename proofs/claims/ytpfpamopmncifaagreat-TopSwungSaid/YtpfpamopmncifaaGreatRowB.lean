/- Opening a statement's arguments: what is the same for all of them. -/
import Derived.Test.YtpfpamopmncifaaGreatRows
import Derived.Test.YtpfpamopmncifaaGreatReg
import Derived.ProofKit
import Derived.OpenShut
import Derived.SizedLaws
import Derived.Deep.Slices
import Derived.Deep.Fields
import Derived.ChangeSame
set_option linter.unusedSimpArgs false
set_option linter.unusedVariables false
namespace Go.Proofs.YtpfpamopmncifaaGreat
open Go.RowKit Go.Sort Go.ChangeShapes Go.WideShapes Go.ChangeAt Go.Deep
theorem own : ownKnob Tryz.prog.godebug = none := by kernel_rfl
theorem laidOut : laidOutB Tryz.prog = true := by kernel_rfl
theorem cells3 : Tryz.prog.cellsOf 3 = 1 := by kernel_rfl
def In64 (a : Int) : Prop := -9223372036854775808 ≤ a ∧ a ≤ 9223372036854775807
theorem in64_of {a : Int} (h : (Lit.int .i64 a).wf = true) : In64 a := by
 have h1 : IntKind.i64.min = -9223372036854775808 := rfl
 have h2 : IntKind.i64.max = 9223372036854775807 := rfl
 simp only [Lit.wf, Bool.and_eq_true, decide_eq_true_eq] at h
 unfold In64
 omega
theorem sized_any {H : Type} {P : Program} {ts : List TypeId} {ds : List (DataW H)} (h : (DataW.weightsEach P ts ds).all (· ≤ reachBytes) = true) {j : Nat} {t : TypeId} {d : DataW H} (ht : ts[j]? = some t) (hd : ds[j]? = some d) : ∀ y ∈ d.weights P t, y ≤ reachBytes := fun y hy => by
 have := List.all_eq_true.1 h _ (DataW.weights_mem_each ht hd y hy)
 simpa using this
theorem weights_all {H : Type} {P : Program} {e : TypeId} : ∀ {ds : List (DataW H)} {d : DataW H}, d ∈ ds → ∀ n ∈ d.weights P e, n ∈ DataW.weightsAll P e ds
 | d0 :: ds, d, hd, n, hn => by
  simp only [DataW.weightsAll, List.mem_append]
  rcases List.mem_cons.1 hd with rfl | hd
  ·exact Or.inl hn
  ·exact Or.inr (weights_all hd n hn)
 | [], _, hd, _, _ => by cases hd
section
variable {H : Type} {enc : TypeId × Value → H} {w : World} {base : Nat} {spare : Nat → Bool} {held : Bool}
/-- A slice, opened: its elements are decoded one by one. -/
theorem trod_list {P : Program} {T : Type} [Inhabited T] {t e : TypeId} (ht : P.underlying t = some (.slice e)) (encT : T → List Value) (m : Nat) (hm : P.cellsOf e = m) (h0m : 0 < m) (hlen : ∀ s, (encT s).length = m) (Good : T → Prop) (hby : 8 ≤ P.bytesOf e)
  (hdec : ∀ fuel cs (x : DataW H × List MemPlace), DataW.trod enc P w base (fun _ => true) held fuel e cs = some x → (∀ y ∈ x.2, y.block < w.heap.size) → (∀ y ∈ x.1.weights P e, y ≤ reachBytes) → ∃ s, cs = encT s ∧ Good s)
  {fuel : Nat} {cs : List Value} {x : DataW H × List MemPlace} (h : DataW.trod enc P w base (fun _ => true) held fuel t cs = some x) (hlt : ∀ y ∈ x.2, y.block < w.heap.size) (hw : ∀ y ∈ x.1.weights P t, y ≤ reachBytes) :
  ∃ (ss : List T) (A : Option Addr) (c : Nat), cs = [.slice A ss.length c] ∧ ss.length ≤ c ∧ ss.length ≤ 100000000000000 ∧ Rd w w.heap.size m A (ss.map encT) ∧ ∀ s ∈ ss, Good s := by
 rcases open_slice ht h with ⟨h1, h2⟩ | ⟨a, len, cap, k, n, D, Pl, h1, _, hl, hcap, hmm, hx, hi⟩
 ·exact ⟨[], none, 0, h1, Nat.le_refl _, by simp, .inl rfl, fun s hs => by cases hs⟩
 ·simp only [if_true] at hmm
  obtain rfl := hmm
  subst h1
  rw [hx] at hlt hw
  rw [hm] at hi hlt
  have hreach : (len + (k - len)) * P.bytesOf e ≤ reachBytes := hw _ (by simp [DataW.weights, ht])
  have hr8 : (len + (k - len)) * 8 ≤ reachBytes := Nat.le_trans (Nat.mul_le_mul_left _ hby) hreach
  simp only [reachBytes] at hr8
  have hsec : ∀ i, i < len → ∃ s : T, (∀ j u, (encT s)[j]? = some u → w.cell? (a.add (i * m + j)) = some u) ∧ Good s := by
   intro i hil
   obtain ⟨cs', hc, htr⟩ := hi i (by omega)
   obtain ⟨s, rfl, hg⟩ := hdec _ _ _ htr (fun y hy => hlt y (List.mem_append_right _ (List.mem_flatMap.2 ⟨i, List.mem_range.2 (by omega), hy⟩))) (fun y hy => hw y (by
    simp only [DataW.weights, ht, List.mem_cons, List.mem_append]
    exact .inr (.inl (weights_all (List.mem_map.2 ⟨i, List.mem_range.2 hil, rfl⟩) y hy))))
   refine ⟨s, fun j u hu => ?_, hg⟩
   obtain ⟨_, _, hat⟩ := World.cells?_some hc
   have hj : j < m := by rw [← hlen s]; exact (List.getElem?_eq_some_iff.1 hu).1
   have := hat j hj
   rw [hu, Go.Deep.add_add] at this
   exact this
  obtain ⟨f, hf2⟩ : ∃ f : Nat → T, ∀ i, i < len → (∀ j u, (encT (f i))[j]? = some u → w.cell? (a.add (i * m + j)) = some u) ∧ Good (f i) := by
   refine ⟨fun i => if h : i < len then (hsec i h).choose else default, fun i hil => ?_⟩
   simp only [dif_pos hil]
   exact (hsec i hil).choose_spec
  refine ⟨(List.range len).map f, some a, k, by simp, by simpa using hl, by simp; omega, ?_, ?_⟩
  ·rcases Nat.eq_zero_or_pos len with h0 | h0
   ·subst h0
    exact .inl rfl
   ·have hl0 := hlen (f 0)
    obtain ⟨u0, hu0⟩ : ∃ u, (encT (f 0))[0]? = some u := ⟨_, List.getElem?_eq_getElem (by omega)⟩
    have hc0 := (hf2 0 h0).1 0 _ hu0
    obtain ⟨b, off, spot⟩ := a
    have hspot : spot = none := by simpa [Addr.add] using World.cell?_spot hc0
    subst hspot
    refine .inr ⟨b, off, rfl, hlt (.cell b off) ?_, fun k' x hx j u hu => ?_⟩
    ·refine List.mem_append_left _ (MemPlace.mem_row.2 ⟨0, ?_, by simp⟩)
     have : 0 < k := by omega
     exact Nat.mul_pos this h0m
    ·rw [List.map_map, List.getElem?_map] at hx
     obtain ⟨i, hik, rfl⟩ := Option.map_eq_some_iff.1 hx
     have hkl : k' < len := by have := (List.getElem?_eq_some_iff.1 hik).1; simpa using this
     rw [List.getElem?_range hkl] at hik
     injection hik with hik
     subst hik
     have := (hf2 k' hkl).1 j u hu
     rw [add_at] at this
     rw [Nat.add_assoc]
     exact this
  ·intro s hs
   obtain ⟨i, hi', rfl⟩ := List.mem_map.1 hs
   exact (hf2 i (List.mem_range.1 hi')).2
end
end Go.Proofs.YtpfpamopmncifaaGreat
