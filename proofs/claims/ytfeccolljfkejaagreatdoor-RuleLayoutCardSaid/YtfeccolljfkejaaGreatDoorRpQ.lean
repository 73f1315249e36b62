/- Where rules are read: what stands behind or ahead of a source, in plain words. -/
import Derived.Test.YtfeccolljfkejaaGreatDoorRpP
set_option linter.unusedSimpArgs false
set_option linter.unusedVariables false
namespace Go.Proofs.YtfeccolljfkejaaGreatDoor
open Go.RowKit Go.Sort
/-- Two sources are alike up to b. -/
structure Ag (s s' : ByteArray) (b : Nat) : Prop where
 l : b ≤ s.size
 l' : b ≤ s'.size
 e : s.data.toList.take b = s'.data.toList.take b
theorem Ag.mono {s s' : ByteArray} {b c : Nat} (h : Ag s s' b) (hc : c ≤ b) : Ag s s' c :=
 ⟨Nat.le_trans hc h.l, Nat.le_trans hc h.l', by
  have := congrArg (List.take c) h.e
  rwa [List.take_take, List.take_take, Nat.min_eq_left hc] at this⟩
theorem tw_in {p : UInt8 → Bool} : ∀ (A X X' : List UInt8), ((A ++ X).takeWhile p).length < A.length → (A ++ X').takeWhile p = (A ++ X).takeWhile p
 | [], X, X', h => by simp at h
 | a :: A, X, X', h => by
  rw [List.cons_append, List.takeWhile_cons] at h ⊢
  rw [List.cons_append, List.takeWhile_cons]
  split
  ·rename_i hp
   rw [if_pos hp, List.length_cons, List.length_cons] at h
   rw [tw_in A X X' (by omega)]
  ·rfl
theorem split_at (s : ByteArray) (j b : Nat) (hj : j ≤ b) (hb : b ≤ s.size) : s.data.toList.drop j = (s.data.toList.take b).drop j ++ s.data.toList.drop b := by
 have h := List.take_append_drop b s.data.toList
 have h2 := congrArg (List.drop j) h
 rw [List.drop_append_of_le_length (by rw [List.length_take, ba_len]; omega)] at h2
 exact h2.symm
theorem Ag.end_ {s s' : ByteArray} {b : Nat} (h : Ag s s' b) {p : Int → Bool} {j : Nat} (hj : j ≤ b) (he : endOf p s j < b) : endOf p s' j = endOf p s j := by
 have h1 := split_at s j b hj h.l
 have h2 := split_at s' j b hj h.l'
 unfold endOf at he ⊢
 rw [h1] at he
 have hl : ((s.data.toList.take b).drop j).length = b - j := by rw [List.length_drop, List.length_take, ba_len]; have := h.l; omega
 rw [h1, h2, ← h.e, tw_in _ (s.data.toList.drop b) (s'.data.toList.drop b) (by rw [hl]; omega)]
theorem Ag.ext_ {s s' : ByteArray} {b : Nat} (h : Ag s s' b) {j k : Nat} (hj : j ≤ b) (hk : k ≤ b) : s'.extract j k = s.extract j k := by
 have e : ∀ t : ByteArray, b ≤ t.size → (t.extract j k).data.toList = ((t.data.toList.take b).drop j).take (k - j) := fun t ht => by
  rw [ext_list, split_at t j b hj ht, List.take_append_of_le_length (by rw [List.length_drop, List.length_take, ba_len]; omega)]
 rw [ba_of (e s' h.l'), ba_of (e s h.l), h.e]
theorem Ag.bAt_ {s s' : ByteArray} {b : Nat} (h : Ag s s' b) {j : Nat} (hj : j < b) : bAt s' j = bAt s j := by
 have e : ∀ t : ByteArray, t.data.toList.getD j 0 = (t.data.toList.take b).getD j 0 := fun t => by
  rw [List.getD_eq_getElem?_getD, List.getD_eq_getElem?_getD, List.getElem?_take, if_pos hj]
 unfold bAt
 rw [e s', e s, h.e]
theorem Ag.word {s s' : ByteArray} {b : Nat} (h : Ag s s' b) {ls : List ByteArray} {i k a : Nat} (hi : i ≤ s.size) (hw : wordAt ls s i = .ok (k, a)) (hb : a + (ls.getD k ⟨#[]⟩).size < b) : wordAt ls s' i = .ok (k, a) := by
 obtain ⟨_, e1, h2, _, h4, h5, _⟩ := word_ok hi hw
 have g := endOf_ge isBl s i
 have e2 : endOf isBl s' i = endOf isBl s i := h.end_ (by omega) (by omega)
 have e3 : endOf (inR 97 122) s' (endOf isBl s i) = endOf (inR 97 122) s (endOf isBl s i) := by
  rw [← e1]
  exact h.end_ (by omega) (by omega)
 unfold wordAt at hw ⊢
 rw [e2, e3, h.ext_ (by omega) (by rw [← e1]; omega)]
 exact hw
theorem Ag.tail {s s' : ByteArray} {b i : Nat} (h : Ag s s' b) (ht : tailAt s i = .ok b) : tailAt s' i = .ok b := by
 have hp := tail_prog ht
 unfold tailAt at ht
 split at ht
 ·rename_i h1
  injection ht with ht
  have e1 : endOf isBl s' i = endOf isBl s i := h.end_ (by omega) (by omega)
  unfold tailAt
  rw [e1, h.bAt_ (by omega), if_pos ⟨by have := h.l'; omega, h1.2⟩, ht]
 ·cases ht
theorem Ag.num {s s' : ByteArray} {b q i j : Nat} {n : Int} (h : Ag s s' b) (hn : numAt q s i = .ok (n, j)) (hj : j < b) : numAt q s' i = .ok (n, j) := by
 have hp := num_prog hn
 have ej : endOf (inR 48 57) s i = j := by
  unfold numAt at hn
  split at hn
  ·split at hn
   ·injection hn with hn; injection hn
   ·cases hn
  ·cases hn
 have e1 : endOf (inR 48 57) s' i = endOf (inR 48 57) s i := h.end_ (by omega) (by omega)
 unfold numAt at hn ⊢
 rw [e1, h.ext_ (by omega) (by omega)]
 exact hn
theorem Ag.rest {s s' : ByteArray} {b q k i : Nat} {r : Ru} (h : Ag s s' b) (hr : restAt q k s i = .ok (r, b)) : restAt q k s' i = .ok (r, b) := by
 have hp := rest_prog hr
 have g := endOf_ge isBl s i
 unfold restAt at hr
 split at hr
 ·rename_i h5
  split at hr
  ·cases hr
  ·rename_i b' h1
   injection hr with hr
   injection hr with h2 h3
   subst h3
   have hp1 := tail_prog h1
   have e1 : endOf isBl s' i = endOf isBl s i := h.end_ (by omega) (by omega)
   unfold restAt
   rw [if_pos h5, e1, h.tail h1]
   simp only [h2]
 ·rename_i h5
  split at hr
  ·cases hr
  ·rename_i n j h1
   split at hr
   ·cases hr
   ·rename_i b' h2
    injection hr with hr
    injection hr with h3 h4
    subst h4
    have hp1 := tail_prog h2
    have hp2 := num_prog h1
    have e1 : endOf isBl s' i = endOf isBl s i := h.end_ (by omega) (by omega)
    unfold restAt
    rw [if_neg h5, e1, h.num h1 (by omega)]
    simp only [h.tail h2, h3]
theorem Ag.rule {s s' : ByteArray} {b i : Nat} {r : Ru} (h : Ag s s' b) (hi : i ≤ s.size) (hr : ruleAt s i = .ok (r, b)) : ruleAt s' i = .ok (r, b) := by
 unfold ruleAt at hr
 split at hr
 ·cases hr
 ·rename_i q a h1
  split at hr
  ·rename_i h2
   subst h2
   have hp := rest_prog hr
   unfold ruleAt
   rw [h.word hi h1 (show a + (opA 1).size < b by omega)]
   dsimp only
   rw [if_pos rfl]
   exact h.rest hr
  ·rename_i h2
   split at hr
   ·cases hr
   ·rename_i k j h3
    have hp := rest_prog hr
    have hop := op_ok hi h1
    have h4 := h3
    unfold kindAt at h4
    split at h4
    ·cases h4
    ·rename_i k' a' h5
     split at h4
     ·rename_i hc
      injection h4 with h4
      injection h4 with h6 h7
      subst h6
      have hw := word_prog h5
      have e3 : kindAt q s' (a + (opA q).size) = .ok (k', j) := by
       unfold kindAt
       rw [h.word hop.2.2 h5 (show a' + (kdA k').size < b by omega)]
       dsimp only
       rw [if_pos hc, h7]
      unfold ruleAt
      rw [h.word hi h1 (show a + (opA q).size < b by omega)]
      dsimp only
      rw [if_neg h2, e3]
      exact h.rest hr
     ·cases h4
/-- From i on, the second source is the first one, d further on. -/
def Sx (s s' : ByteArray) (d i : Nat) : Prop := ∀ j, i ≤ j → s.data.toList.drop j = s'.data.toList.drop (j + d)
theorem Sx.of {s s' : ByteArray} {d i : Nat} (h : s.data.toList.drop i = s'.data.toList.drop (i + d)) : Sx s s' d i := fun j hj => by
 have := congrArg (List.drop (j - i)) h
 rw [List.drop_drop, List.drop_drop] at this
 rw [show i + (j - i) = j by omega, show i + d + (j - i) = j + d by omega] at this
 exact this
theorem Sx.mono {s s' : ByteArray} {d i j : Nat} (h : Sx s s' d i) (hj : i ≤ j) : Sx s s' d j := fun k hk => h k (by omega)
theorem Sx.end_ {s s' : ByteArray} {d i : Nat} (h : Sx s s' d i) (p : Int → Bool) : endOf p s' (i + d) = endOf p s i + d := by
 unfold endOf
 rw [← h i (Nat.le_refl _)]
 omega
theorem Sx.ext_ {s s' : ByteArray} {d i : Nat} (h : Sx s s' d i) (k : Nat) : s'.extract (i + d) (k + d) = s.extract i k := by
 have e := ext_list s' (i + d) (k + d)
 rw [← h i (Nat.le_refl _), show k + d - (i + d) = k - i by omega, ← ext_list s i k] at e
 rw [ba_of e]
theorem Sx.bAt_ {s s' : ByteArray} {d i : Nat} (h : Sx s s' d i) : bAt s' (i + d) = bAt s i := by
 have e : ∀ (t : ByteArray) (j : Nat), t.data.toList.getD j 0 = (t.data.toList.drop j).getD 0 0 := fun t j => by
  rw [List.getD_eq_getElem?_getD, List.getD_eq_getElem?_getD, List.getElem?_drop]
  rfl
 unfold bAt
 rw [e s', e s, ← h i (Nat.le_refl _)]
theorem Sx.lt_ {s s' : ByteArray} {d i : Nat} (h : Sx s s' d i) : (i + d < s'.size) ↔ (i < s.size) := by
 have := congrArg List.length (h i (Nat.le_refl _))
 rw [List.length_drop, List.length_drop, ba_len, ba_len] at this
 omega
def sh {α : Type} (d : Nat) : Except (Nat × Int) (α × Nat) → Except (Nat × Int) (α × Nat)
 | .ok (x, b) => .ok (x, b + d)
 | .error (p, e) => .error (p + d, e)
def shN (d : Nat) : Except (Nat × Int) Nat → Except (Nat × Int) Nat
 | .ok b => .ok (b + d)
 | .error (p, e) => .error (p + d, e)
theorem Sx.word {s s' : ByteArray} {d i : Nat} (h : Sx s s' d i) (ls : List ByteArray) : wordAt ls s' (i + d) = sh d (wordAt ls s i) := by
 have h1 := h.mono (endOf_ge isBl s i)
 unfold wordAt
 rw [h.end_, h1.end_, h1.ext_]
 by_cases e1 : endOf (inR 97 122) s (endOf isBl s i) = endOf isBl s i
 ·rw [if_pos e1, if_pos (by omega)]
  rfl
 ·rw [if_neg e1, if_neg (by omega)]
  split <;> rfl
theorem Sx.kind {s s' : ByteArray} {d i : Nat} (h : Sx s s' d i) (q : Nat) : kindAt q s' (i + d) = sh d (kindAt q s i) := by
 unfold kindAt
 rw [h.word]
 cases wordAt kdW s i with
 | error e => rfl
 | ok ka =>
  obtain ⟨k, a⟩ := ka
  show (if _ then _ else _) = sh d (if _ then _ else _)
  split
  ·show Except.ok (k, a + d + (kdA k).size) = Except.ok (k, a + (kdA k).size + d)
   rw [show a + d + (kdA k).size = a + (kdA k).size + d by omega]
  ·rfl
theorem Sx.num {s s' : ByteArray} {d i : Nat} (h : Sx s s' d i) (q : Nat) : numAt q s' (i + d) = sh d (numAt q s i) := by
 unfold numAt
 rw [h.end_, h.ext_]
 split
 ·split <;> rfl
 ·rfl
theorem Sx.tail {s s' : ByteArray} {d i : Nat} (h : Sx s s' d i) : tailAt s' (i + d) = shN d (tailAt s i) := by
 have h1 := h.mono (endOf_ge isBl s i)
 unfold tailAt
 rw [h.end_, h1.bAt_]
 by_cases e1 : endOf isBl s i < s.size ∧ bAt s (endOf isBl s i) = 59
 ·rw [if_pos e1, if_pos ⟨h1.lt_.2 e1.1, e1.2⟩]
  show Except.ok _ = Except.ok _
  congr 1
  omega
 ·rw [if_neg e1, if_neg (fun e => e1 ⟨h1.lt_.1 e.1, e.2⟩)]
  rfl
theorem Sx.rest {s s' : ByteArray} {d i : Nat} (h : Sx s s' d i) (q k : Nat) : restAt q k s' (i + d) = sh d (restAt q k s i) := by
 have h1 := h.mono (endOf_ge isBl s i)
 unfold restAt
 rw [h.end_]
 split
 ·rw [h1.tail]
  cases tailAt s (endOf isBl s i) with
  | error e => rfl
  | ok b => rfl
 ·rw [h1.num]
  cases hn : numAt q s (endOf isBl s i) with
  | error e => rfl
  | ok nj =>
   obtain ⟨n, j⟩ := nj
   have h2 := h1.mono (num_prog hn)
   show (match tailAt s' (j + d) with | .error e => _ | .ok b => _) = sh d (match tailAt s j with | .error e => _ | .ok b => _)
   rw [h2.tail]
   cases tailAt s j with
   | error e => rfl
   | ok b => rfl
theorem Sx.rule {s s' : ByteArray} {d i : Nat} (h : Sx s s' d i) : ruleAt s' (i + d) = sh d (ruleAt s i) := by
 unfold ruleAt
 rw [h.word]
 cases hw : wordAt opW s i with
 | error e => rfl
 | ok qa =>
  obtain ⟨q, a⟩ := qa
  have hp := word_prog hw
  show (if q = 1 then restAt 1 0 s' (a + d + (opA 1).size) else (match kindAt q s' (a + d + (opA q).size) with | .error e => _ | .ok (k, j) => restAt q k s' j)) = sh d (if q = 1 then restAt 1 0 s (a + (opA 1).size) else (match kindAt q s (a + (opA q).size) with | .error e => _ | .ok (k, j) => restAt q k s j))
  split
  ·rw [show a + d + (opA 1).size = a + (opA 1).size + d by omega]
   exact (h.mono (by omega)).rest 1 0
  ·rw [show a + d + (opA q).size = a + (opA q).size + d by omega, (h.mono (show i ≤ a + (opA q).size by omega)).kind]
   cases hk : kindAt q s (a + (opA q).size) with
   | error e => rfl
   | ok kj =>
    obtain ⟨k, j⟩ := kj
    refine (h.mono ?_).rest q k
    unfold kindAt at hk
    split at hk
    ·cases hk
    ·rename_i k' a' h5
     have := word_prog h5
     split at hk
     ·injection hk with hk
      injection hk
      omega
     ·cases hk
/-- No mark from i to p. -/
def N59 (s : ByteArray) (i p : Nat) : Prop := i ≤ p ∧ ∀ k, i ≤ k → k < p → bAt s k ≠ 59
theorem N59.refl (s : ByteArray) (i : Nat) : N59 s i i := ⟨Nat.le_refl _, fun k h1 h2 => by omega⟩
theorem N59.trans {s : ByteArray} {i j k : Nat} (h : N59 s i j) (g : N59 s j k) : N59 s i k :=
 ⟨Nat.le_trans h.1 g.1, fun m h1 h2 => by
  by_cases hm : m < j
  ·exact h.2 m h1 hm
  ·exact g.2 m (by omega) h2⟩
theorem end_all {p : Int → Bool} {s : ByteArray} : ∀ (n i k : Nat), k = i + n → k < endOf p s i → p (bAt s k) = true
 | n, i, k, hk, h => by
  by_cases hi : i < s.size ∧ p (bAt s i) = true
  ·cases n with
   | zero =>
    rw [Nat.add_zero] at hk
    rw [hk]
    exact hi.2
   | succ n =>
    rw [endOf_step hi.1 hi.2] at h
    exact end_all n (i + 1) k (by omega) h
  ·have := endOf_stop (p := p) (s := s) (i := i) (fun h1 => by
    cases hp : p (bAt s i) with
    | true => exact absurd ⟨h1, hp⟩ hi
    | false => rfl)
   omega
theorem n59_end {p : Int → Bool} (hp : p 59 = false) (s : ByteArray) (i : Nat) : N59 s i (endOf p s i) :=
 ⟨endOf_ge _ _ _, fun k h1 h2 e => by
  have := end_all (p := p) (s := s) (k - i) i k (by omega) h2
  rw [e, hp] at this
  cases this⟩
theorem n59_word {ls : List ByteArray} {s : ByteArray} {i k a : Nat} (hi : i ≤ s.size) (h : wordAt ls s i = .ok (k, a)) : N59 s i a ∧ N59 s i (a + (ls.getD k ⟨#[]⟩).size) ∧ a + (ls.getD k ⟨#[]⟩).size ≤ s.size := by
 obtain ⟨_, e1, _, _, h4, h5, h6⟩ := word_ok hi h
 have g1 : N59 s i a := by rw [e1]; exact n59_end rfl s i
 refine ⟨g1, g1.trans ?_, h6⟩
 rw [h5, show a + (endOf (inR 97 122) s a - a) = endOf (inR 97 122) s a by omega]
 exact n59_end rfl s a
theorem word_pos {ls : List ByteArray} {s : ByteArray} {i p : Nat} {e : Int} (h : wordAt ls s i = .error (p, e)) : p = endOf isBl s i := by
 unfold wordAt at h
 split at h
 ·injection h with h; injection h with h _; exact h.symm
 ·split at h
  ·injection h with h; injection h with h _; exact h.symm
  ·cases h
theorem n59_rest {q k : Nat} {s : ByteArray} {i p : Nat} {e : Int} (hi : i ≤ s.size) (h : restAt q k s i = .error (p, e)) : N59 s i p ∧ p ≤ s.size := by
 have g := endOf_le (p := isBl) hi
 have g1 := n59_end (p := isBl) rfl s i
 have tl : ∀ j, j ≤ s.size → tailAt s j = .error (p, e) → N59 s j p ∧ p ≤ s.size := fun j hj ht => by
  unfold tailAt at ht
  split at ht
  ·cases ht
  ·injection ht with ht
   injection ht with ht _
   rw [← ht]
   exact ⟨n59_end rfl s j, endOf_le hj⟩
 unfold restAt at h
 split at h
 ·split at h
  ·rename_i e' h1
   injection h with h
   subst h
   obtain ⟨a1, a2⟩ := tl _ g h1
   exact ⟨g1.trans a1, a2⟩
  ·cases h
 ·split at h
  ·rename_i e' h1
   injection h with h
   subst h
   have : p = endOf isBl s i := by
    unfold numAt at h1
    split at h1
    ·split at h1
     ·cases h1
     ·injection h1 with h1; injection h1 with h1 _; exact h1.symm
    ·injection h1 with h1; injection h1 with h1 _; exact h1.symm
   rw [this]
   exact ⟨g1, g⟩
  ·rename_i n j h1
   have ej : endOf (inR 48 57) s (endOf isBl s i) = j := by
    unfold numAt at h1
    split at h1
    ·split at h1
     ·injection h1 with h1; injection h1
     ·cases h1
    ·cases h1
   split at h
   ·rename_i e' h2
    injection h with h
    subst h
    obtain ⟨a1, a2⟩ := tl j (by rw [← ej]; exact endOf_le g) h2
    refine ⟨(g1.trans ?_).trans a1, a2⟩
    rw [← ej]
    exact n59_end rfl s _
   ·cases h
theorem n59_rule {s : ByteArray} {i p : Nat} {e : Int} (hi : i ≤ s.size) (h : ruleAt s i = .error (p, e)) : N59 s i p ∧ p ≤ s.size := by
 unfold ruleAt at h
 split at h
 ·rename_i e' h1
  injection h with h
  subst h
  rw [word_pos h1]
  exact ⟨n59_end rfl s i, endOf_le hi⟩
 ·rename_i q a h1
  obtain ⟨_, g2, g3⟩ := n59_word hi h1
  split at h
  ·rename_i h2
   subst h2
   obtain ⟨a1, a2⟩ := n59_rest g3 h
   exact ⟨g2.trans a1, a2⟩
  ·split at h
   ·rename_i e' h2
    injection h with h
    subst h
    unfold kindAt at h2
    split at h2
    ·rename_i e'' h3
     injection h2 with h2
     subst h2
     rw [word_pos h3]
     exact ⟨g2.trans (n59_end rfl s _), endOf_le g3⟩
    ·rename_i k' a' h3
     obtain ⟨b1, _, b3⟩ := n59_word g3 h3
     split at h2
     ·cases h2
     ·injection h2 with h2
      injection h2 with h2 _
      rw [← h2]
      exact ⟨g2.trans b1, by omega⟩
   ·rename_i k j h2
    unfold kindAt at h2
    split at h2
    ·cases h2
    ·rename_i k' a' h3
     obtain ⟨_, b2, b3⟩ := n59_word g3 h3
     split at h2
     ·injection h2 with h2
      injection h2 with h4 h5
      subst h4
      have e5 : a' + (kdW.getD k' ⟨#[]⟩).size = j := h5
      rw [e5] at b2 b3
      obtain ⟨a1, a2⟩ := n59_rest b3 h
      exact ⟨(g2.trans b2).trans a1, a2⟩
     ·cases h2
theorem tail_mark {s : ByteArray} {i b : Nat} (h : tailAt s i = .ok b) : 1 ≤ b ∧ bAt s (b - 1) = 59 := by
 unfold tailAt at h
 split at h
 ·rename_i h1
  injection h with h
  rw [← h]
  exact ⟨by omega, by rw [Nat.add_sub_cancel]; exact h1.2⟩
 ·cases h
theorem rest_mark {q k : Nat} {s : ByteArray} {i b : Nat} {r : Ru} (h : restAt q k s i = .ok (r, b)) : 1 ≤ b ∧ bAt s (b - 1) = 59 := by
 unfold restAt at h
 split at h
 ·split at h
  ·cases h
  ·rename_i b' h1
   injection h with h
   injection h with _ h
   rw [← h]
   exact tail_mark h1
 ·split at h
  ·cases h
  ·split at h
   ·cases h
   ·rename_i b' h1
    injection h with h
    injection h with _ h
    rw [← h]
    exact tail_mark h1
theorem rule_mark {s : ByteArray} {i b : Nat} {r : Ru} (h : ruleAt s i = .ok (r, b)) : 1 ≤ b ∧ bAt s (b - 1) = 59 := by
 unfold ruleAt at h
 split at h
 ·cases h
 ·split at h
  ·exact rest_mark h
  ·split at h
   ·cases h
   ·exact rest_mark h
/-- Rules that are read one after the other, from i as far as b. -/
def Chain (s : ByteArray) : Nat → List Ru → Nat → Prop
 | i, [], b => b = i
 | i, r :: rs, b => endOf isBl s i < s.size ∧ ∃ c, ruleAt s (endOf isBl s i) = .ok (r, c) ∧ Chain s c rs b
theorem chain_b {s : ByteArray} : ∀ {rs : List Ru} {i b : Nat}, Chain s i rs b → i ≤ s.size → i ≤ b ∧ b ≤ s.size ∧ (rs ≠ [] → i < b ∧ bAt s (b - 1) = 59)
 | [], i, b, h, hi => by
  have : b = i := h
  subst this
  exact ⟨Nat.le_refl _, hi, fun h => absurd rfl h⟩
 | r :: rs, i, b, h, hi => by
  obtain ⟨h1, c, h2, h3⟩ := h
  have hp := rule_prog h2
  have g := endOf_ge isBl s i
  obtain ⟨a1, a2, a3⟩ := chain_b h3 hp.2
  refine ⟨by omega, a2, fun _ => ⟨by omega, ?_⟩⟩
  cases rs with
  | nil =>
   have : b = c := h3
   rw [this]
   exact (rule_mark h2).2
  | cons x xs => exact (a3 (by simp)).2
theorem chain_loc {s s' : ByteArray} : ∀ {rs : List Ru} {i b : Nat}, Chain s i rs b → i ≤ s.size → Ag s s' b → Chain s' i rs b
 | [], _, _, h, _, _ => h
 | r :: rs, i, b, h, hi, ha => by
  obtain ⟨h1, c, h2, h3⟩ := h
  have hp := rule_prog h2
  have g := endOf_ge isBl s i
  have hb := chain_b h3 hp.2
  have hc := ha.mono hb.1
  have e1 : endOf isBl s' i = endOf isBl s i := hc.end_ (by omega) (by omega)
  refine ⟨by rw [e1]; have := hc.l'; omega, c, by rw [e1]; exact hc.rule (by omega) h2, chain_loc h3 hp.2 ha⟩
theorem chain_sh {s s' : ByteArray} {d : Nat} : ∀ {rs : List Ru} {i b : Nat}, Chain s i rs b → Sx s s' d i → Chain s' (i + d) rs (b + d)
 | [], i, b, h, _ => by
  have : b = i := h
  rw [this]
  rfl
 | r :: rs, i, b, h, hs => by
  obtain ⟨h1, c, h2, h3⟩ := h
  have hp := rule_prog h2
  have g := endOf_ge isBl s i
  have hs1 := hs.mono g
  refine ⟨by rw [hs.end_]; exact hs1.lt_.2 h1, c + d, by rw [hs.end_, hs1.rule, h2]; rfl, chain_sh h3 (hs.mono (by omega))⟩
theorem chain_parse {s : ByteArray} : ∀ {rs : List Ru} {i b : Nat} (out : List Ru) (f : Nat), Chain s i rs b → out.length + rs.length ≤ 40 → s.size - i < f → i ≤ s.size → ∃ g, s.size - b < g ∧ parseGo f s i out = parseGo g s b (out ++ rs)
 | [], i, b, out, f, h, _, hf, _ => by
  have : b = i := h
  rw [this]
  exact ⟨f, hf, by rw [List.append_nil]⟩
 | r :: rs, i, b, out, f, h, hl, hf, hi => by
  obtain ⟨h1, c, h2, h3⟩ := h
  have hp := rule_prog h2
  have g := endOf_ge isBl s i
  obtain ⟨f, rfl⟩ : ∃ x, f = x + 1 := ⟨f - 1, by omega⟩
  rw [List.length_cons] at hl
  obtain ⟨f2, e1, e2⟩ := chain_parse (out ++ [r]) f h3 (by simp; omega) (by omega) hp.2
  refine ⟨f2, e1, ?_⟩
  rw [show out ++ r :: rs = out ++ [r] ++ rs by simp, ← e2]
  conv => lhs; unfold parseGo
  rw [if_pos h1, if_neg (by omega), h2]
/-- What a source is, up to its end or its error. -/
theorem decomp : ∀ (f : Nat) (s : ByteArray) (i : Nat) (out : List Ru), i ≤ s.size → s.size - i < f → out.length ≤ 40 → ∃ rs b, Chain s i rs b ∧ out.length + rs.length ≤ 40 ∧ ((¬ endOf isBl s b < s.size ∧ parseGo f s i out = (out ++ rs, 0, 0)) ∨ (endOf isBl s b < s.size ∧ out.length + rs.length = 40 ∧ parseGo f s i out = ([], ((endOf isBl s b : Nat) : Int), overAt s (endOf isBl s b))) ∨ (endOf isBl s b < s.size ∧ out.length + rs.length < 40 ∧ ∃ p e, ruleAt s (endOf isBl s b) = .error (p, e) ∧ parseGo f s i out = ([], (p : Int), e)))
 | 0, _, _, _, _, h, _ => by omega
 | f + 1, s, i, out, hi, hf, ho => by
  by_cases h1 : endOf isBl s i < s.size
  ·by_cases h2 : out.length = 40
   ·refine ⟨[], i, rfl, by simpa using ho, .inr (.inl ⟨h1, by simpa using h2, ?_⟩)⟩
    unfold parseGo
    rw [if_pos h1, if_pos h2]
   ·cases h3 : ruleAt s (endOf isBl s i) with
    | error pe =>
     obtain ⟨p, e⟩ := pe
     refine ⟨[], i, rfl, by simpa using ho, .inr (.inr ⟨h1, by simp; omega, p, e, h3, ?_⟩)⟩
     unfold parseGo
     rw [if_pos h1, if_neg h2, h3]
    | ok rb =>
     obtain ⟨r, c⟩ := rb
     have hp := rule_prog h3
     have g := endOf_ge isBl s i
     obtain ⟨rs, b, g1, g2, g3⟩ := decomp f s c (out ++ [r]) hp.2 (by omega) (by simp; omega)
     have e1 : parseGo (f + 1) s i out = parseGo f s c (out ++ [r]) := by
      conv => lhs; unfold parseGo
      rw [if_pos h1, if_neg h2, h3]
     have e2 : (out ++ [r]).length + rs.length = out.length + (r :: rs).length := by simp; omega
     rw [e2] at g2 g3
     rw [show out ++ [r] ++ rs = out ++ r :: rs by simp] at g3
     refine ⟨r :: rs, b, ⟨h1, c, h3, g1⟩, g2, ?_⟩
     rw [e1]
     exact g3
  ·refine ⟨[], i, rfl, by simpa using ho, .inl ⟨h1, ?_⟩⟩
   unfold parseGo
   rw [if_neg h1, List.append_nil]
/-- The place behind the last mark ahead of p. -/
def lm (s : ByteArray) : Nat → Nat
 | 0 => 0
 | k + 1 => if bAt s k = 59 then k + 1 else lm s k
theorem lm_le (s : ByteArray) : ∀ p, lm s p ≤ p
 | 0 => Nat.le_refl _
 | k + 1 => by
  unfold lm
  split
  ·exact Nat.le_refl _
  ·have := lm_le s k; omega
theorem lm_at {s : ByteArray} {b p : Nat} (hb : b = 0 ∨ bAt s (b - 1) = 59) (h : N59 s b p) : lm s p = b := by
 obtain ⟨h1, h2⟩ := h
 have : ∀ n, n ≤ p - b → lm s (b + n) = b := by
  intro n
  induction n with
  | zero =>
   intro _
   rcases hb with rfl | hb
   ·rfl
   ·cases b with
    | zero => rfl
    | succ b =>
     rw [Nat.add_sub_cancel] at hb
     show (if bAt s b = 59 then b + 1 else lm s b) = b + 1
     rw [if_pos hb]
  | succ n ih =>
   intro hn
   show (if bAt s (b + n) = 59 then b + n + 1 else lm s (b + n)) = b
   rw [if_neg (h2 _ (by omega) (by omega))]
   exact ih (by omega)
 have := this (p - b) (Nat.le_refl _)
 rwa [show b + (p - b) = p by omega] at this
theorem ag_extract (s : ByteArray) (b : Nat) (hb : b ≤ s.size) : Ag s (s.extract 0 b) b ∧ (s.extract 0 b).size = b := by
 have hs : (s.extract 0 b).size = b := by rw [ByteArray.size_extract]; omega
 refine ⟨⟨hb, by omega, ?_⟩, hs⟩
 rw [ext_list, List.drop_zero, Nat.sub_zero, List.take_take, Nat.min_self]
theorem end_full (p : Int → Bool) (s : ByteArray) : endOf p s s.size = s.size := endOf_stop fun h => by omega
/-- The law RuleErrors in plain words. -/
theorem errs {s : ByteArray} (h8 : s.size ≤ 1000) (h : (parseOf s).2.2 ≠ 0) : ∃ p : Nat, (parseOf s).2.1 = (p : Int) ∧ p ≤ s.size ∧ (parseOf (s.extract 0 (lm s p))).2.2 = 0 ∧ ∀ (t : ByteArray) (x : List Ru), t.size ≤ 1000 → parseOf t = (x, 0, 0) → x.length + (parseOf (s.extract 0 (lm s p))).1.length < 40 → ∀ u : ByteArray, u.data.toList = t.data.toList ++ 10 :: s.data.toList → parseOf u = ([], ((p + t.size + 1 : Nat) : Int), (parseOf s).2.2) := by
 obtain ⟨rs, b, hc, hl, hcase⟩ := decomp (s.size + 1) s 0 [] (Nat.zero_le _) (by omega) (by simp)
 have es : parseOf s = parseGo (s.size + 1) s 0 [] := by unfold parseOf; rw [if_neg (by omega)]
 rw [← es] at hcase
 obtain ⟨b1, b2, b3⟩ := chain_b hc (Nat.zero_le _)
 have hg := endOf_ge isBl s b
 have pre : ∀ p, N59 s b p → lm s p = b := fun p hp => lm_at (by
  cases rs with
  | nil => exact .inl hc
  | cons r rs => exact .inr (b3 (by simp)).2) hp
 have tr : parseOf (s.extract 0 b) = (rs, 0, 0) := by
  obtain ⟨ha, hz⟩ := ag_extract s b b2
  have hc2 := chain_loc hc (Nat.zero_le _) ha
  unfold parseOf
  rw [if_neg (by omega)]
  obtain ⟨g, e1, e2⟩ := chain_parse [] ((s.extract 0 b).size + 1) hc2 (by simpa using hl) (by omega) (Nat.zero_le _)
  rw [e2]
  obtain ⟨g, rfl⟩ : ∃ x, g = x + 1 := ⟨g - 1, by omega⟩
  unfold parseGo
  have e3 : endOf isBl (s.extract 0 b) b = b := by
   have := end_full isBl (s.extract 0 b)
   rwa [hz] at this
  rw [e3, hz, if_neg (by omega)]
  rfl
 have key : ∀ p e, parseOf s = ([], ((p : Nat) : Int), e) → N59 s b p → p ≤ s.size → (rs.length < 40 → ruleAt s (endOf isBl s b) = .error (p, e)) → endOf isBl s b < s.size → ∃ p : Nat, (parseOf s).2.1 = (p : Int) ∧ p ≤ s.size ∧ (parseOf (s.extract 0 (lm s p))).2.2 = 0 ∧ ∀ (t : ByteArray) (x : List Ru), t.size ≤ 1000 → parseOf t = (x, 0, 0) → x.length + (parseOf (s.extract 0 (lm s p))).1.length < 40 → ∀ u : ByteArray, u.data.toList = t.data.toList ++ 10 :: s.data.toList → parseOf u = ([], ((p + t.size + 1 : Nat) : Int), (parseOf s).2.2) := by
  intro p e hpe hn hps hre hlt
  refine ⟨p, by rw [hpe], hps, ?_, ?_⟩
  ·rw [pre p hn, tr]
  ·intro t x ht hx hlen u hu
   rw [pre p hn, tr] at hlen
   have hlen' : x.length + rs.length < 40 := hlen
   have us : u.size = t.size + 1 + s.size := by
    have := congrArg List.length hu
    rw [ba_len, List.length_append, List.length_cons, ba_len, ba_len] at this
    omega
   obtain ⟨xs, c, k1, k2, k3⟩ := decomp (t.size + 1) t 0 [] (Nat.zero_le _) (by omega) (by simp)
   have et : parseOf t = parseGo (t.size + 1) t 0 [] := by unfold parseOf; rw [if_neg (by omega)]
   rw [← et, hx] at k3
   have kk : ¬ endOf isBl t c < t.size ∧ x = xs := by
    rcases k3 with ⟨q1, q2⟩ | ⟨_, _, q2⟩ | ⟨_, _, p', e', q1, q2⟩
    ·injection q2 with q2 _
     exact ⟨q1, by rw [q2]; rfl⟩
    ·injection q2 with _ q2
     injection q2 with _ q2
     exact absurd q2.symm (over_err t _)
    ·injection q2 with _ q2
     injection q2 with _ q2
     exact absurd q2.symm (rule_err q1)
   obtain ⟨k4, rfl⟩ := kk
   obtain ⟨c1, c2, _⟩ := chain_b k1 (Nat.zero_le _)
   have k5 : endOf isBl t c = t.size := by have := endOf_le (p := isBl) c2; omega
   have ag : Ag t u t.size := ⟨Nat.le_refl _, by omega, by rw [hu, List.take_append_of_le_length (by rw [ba_len]; omega)]⟩
   have ku := chain_loc k1 (Nat.zero_le _) (ag.mono c2)
   have sx : Sx s u (t.size + 1) 0 := Sx.of (by
    rw [Nat.zero_add, List.drop_zero, hu, show t.data.toList ++ 10 :: s.data.toList = (t.data.toList ++ [10]) ++ s.data.toList by simp]
    exact (List.drop_left' (by rw [List.length_append, ba_len]; rfl)).symm)
   have kc := chain_sh hc sx
   rw [Nat.zero_add] at kc
   -- the blanks between
   have dt : u.data.toList.drop c = t.data.toList.drop c ++ 10 :: s.data.toList := by
    rw [hu, List.drop_append_of_le_length (by rw [ba_len]; exact c2)]
   have hbl : ∀ y ∈ t.data.toList.drop c, isBl (y.toNat : Int) = true := by
    have hlen : ((t.data.toList.drop c).takeWhile fun y => isBl (y.toNat : Int)).length = (t.data.toList.drop c).length := by
     have : c + ((t.data.toList.drop c).takeWhile fun y => isBl (y.toNat : Int)).length = t.size := k5
     rw [List.length_drop, ba_len]
     omega
    have hpre := List.takeWhile_prefix (fun y : UInt8 => isBl (y.toNat : Int)) (l := t.data.toList.drop c)
    have heq := hpre.eq_of_length hlen
    have hall := List.all_takeWhile (p := fun y : UInt8 => isBl (y.toNat : Int)) (l := t.data.toList.drop c)
    rw [heq, List.all_eq_true] at hall
    exact hall
   have eqE : endOf isBl u c = endOf isBl u (t.size + 1) := by
    have e10 : u.data.toList.drop (t.size + 1) = s.data.toList := by
     have := (sx 0 (Nat.le_refl _)).symm
     rwa [Nat.zero_add, List.drop_zero] at this
    unfold endOf
    rw [dt, e10, List.takeWhile_append_of_pos hbl, List.takeWhile_cons, show isBl (((10 : UInt8).toNat : Nat) : Int) = true from rfl, if_pos rfl, List.length_append, List.length_cons, List.length_drop, ba_len]
    omega
   rw [hpe]
   show parseOf u = ([], ((p + t.size + 1 : Nat) : Int), e)
   unfold parseOf
   rw [if_neg (by omega)]
   obtain ⟨g, e1, e2⟩ := chain_parse [] (u.size + 1) ku (by simp; omega) (by omega) (Nat.zero_le _)
   rw [e2, List.nil_append]
   obtain ⟨g, rfl⟩ : ∃ y, g = y + 1 := ⟨g - 1, by omega⟩
   have hend : endOf isBl u (b + (t.size + 1)) = endOf isBl s b + (t.size + 1) := (sx.mono (Nat.zero_le _)).end_ isBl
   have hru : ruleAt u (endOf isBl s b + (t.size + 1)) = .error (p + (t.size + 1), e) := by
    rw [(sx.mono (Nat.zero_le _)).rule, hre (by omega)]
    rfl
   have step : ∀ (out : List Ru) (f j : Nat), endOf isBl u j = endOf isBl s b + (t.size + 1) → out.length < 40 → parseGo (f + 1) u j out = ([], ((p + t.size + 1 : Nat) : Int), e) := by
    intro out f j hj ho
    unfold parseGo
    rw [hj, if_pos (by omega), if_neg (by omega), hru]
    rfl
   cases rs with
   | nil =>
    have hb0 : b = 0 := hc
    refine step x g c ?_ (by simpa using hlen')
    rw [eqE]
    rw [hb0, Nat.zero_add] at hend
    rw [hend, hb0]
   | cons r rs =>
    have kc2 : Chain u c (r :: rs) (b + (t.size + 1)) := by
     obtain ⟨z1, z2⟩ := kc
     exact ⟨by rw [eqE]; exact z1, by rw [eqE]; exact z2⟩
    obtain ⟨g2, e3, e4⟩ := chain_parse x (g + 1) kc2 (by omega) (by omega) (by omega)
    rw [e4]
    obtain ⟨g2, rfl⟩ : ∃ y, g2 = y + 1 := ⟨g2 - 1, by omega⟩
    exact step _ g2 _ hend (by rw [List.length_append]; omega)
 have hb59 := n59_end (p := isBl) rfl s b
 rcases hcase with ⟨_, q⟩ | ⟨q1, q2, q3⟩ | ⟨q1, q2, p, e, q3, q4⟩
 ·rw [q] at h
  exact absurd rfl h
 ·exact key _ _ q3 hb59 (by omega) (fun hlt => by
   have : ([] : List Ru).length = 0 := rfl
   omega) q1
 ·obtain ⟨n1, n2⟩ := n59_rule (by omega) q3
  exact key p e q4 (hb59.trans n1) n2 (fun _ => q3) q1
theorem parse_at0 {s : ByteArray} (h : (parseOf s).2.2 = 0) : (parseOf s).2.1 = 0 := by
 by_cases h8 : 8000 < s.size
 ·unfold parseOf
  rw [if_pos h8]
 ·obtain ⟨rs, b, _, _, hcase⟩ := decomp (s.size + 1) s 0 [] (Nat.zero_le _) (by omega) (by simp)
  have es : parseOf s = parseGo (s.size + 1) s 0 [] := by unfold parseOf; rw [if_neg h8]
  rw [← es] at hcase
  rcases hcase with ⟨_, q⟩ | ⟨_, _, q⟩ | ⟨_, _, p, e, q1, q⟩
  ·rw [q]
  ·rw [q] at h
   exact absurd h (over_err s _)
  ·rw [q] at h
   exact absurd h (rule_err q1)
end Go.Proofs.YtfeccolljfkejaaGreatDoor
