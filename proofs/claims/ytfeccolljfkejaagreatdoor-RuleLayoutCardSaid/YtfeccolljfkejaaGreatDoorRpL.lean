/- The law RuleLayout, in plain words. -/
import Derived.Test.YtfeccolljfkejaaGreatDoorRpQ
set_option linter.unusedSimpArgs false
set_option linter.unusedVariables false
namespace Go.Proofs.YtfeccolljfkejaaGreatDoor
open Go.RowKit Go.Sort
theorem src_chain {t : ByteArray} {x : List Ru} (h8 : t.size ≤ 8000) (h : parseOf t = (x, 0, 0)) : ∃ c, Chain t 0 x c ∧ c ≤ t.size ∧ endOf isBl t c = t.size ∧ x.length ≤ 40 := by
 obtain ⟨xs, c, k1, k2, k3⟩ := decomp (t.size + 1) t 0 [] (Nat.zero_le _) (by omega) (by simp)
 have et : parseOf t = parseGo (t.size + 1) t 0 [] := by unfold parseOf; rw [if_neg (by omega)]
 rw [← et, h] at k3
 obtain ⟨c1, c2, _⟩ := chain_b k1 (Nat.zero_le _)
 rcases k3 with ⟨q1, q2⟩ | ⟨_, _, q2⟩ | ⟨_, _, p', e', q1, q2⟩
 ·injection q2 with q2 _
  have e : x = xs := by rw [q2]; rfl
  subst e
  have := endOf_le (p := isBl) c2
  exact ⟨c, k1, c2, by omega, by simpa using k2⟩
 ·injection q2 with _ q2
  injection q2 with _ q2
  exact absurd q2.symm (over_err t _)
 ·injection q2 with _ q2
  injection q2 with _ q2
  exact absurd q2.symm (rule_err q1)
/-- Blanks may be passed over. -/
theorem end_skip {u : ByteArray} {c n : Nat} (h : ∀ y ∈ (u.data.toList.drop c).take n, isBl (y.toNat : Int) = true) (hn : c + n ≤ u.size) : endOf isBl u (c + n) = endOf isBl u c := by
 unfold endOf
 have e : u.data.toList.drop c = (u.data.toList.drop c).take n ++ u.data.toList.drop (c + n) := by
  have := (List.take_append_drop n (u.data.toList.drop c)).symm
  rwa [List.drop_drop] at this
 conv => rhs; rw [e, List.takeWhile_append_of_pos h, List.length_append, List.length_take, List.length_drop, ba_len]
 omega
theorem bl_end {t : ByteArray} {c : Nat} (h : endOf isBl t c = t.size) (hc : c ≤ t.size) : ∀ y ∈ t.data.toList.drop c, isBl (y.toNat : Int) = true := by
 have hlen : ((t.data.toList.drop c).takeWhile fun y => isBl (y.toNat : Int)).length = (t.data.toList.drop c).length := by
  have : c + ((t.data.toList.drop c).takeWhile fun y => isBl (y.toNat : Int)).length = t.size := h
  rw [List.length_drop, ba_len]
  omega
 have hpre := List.takeWhile_prefix (fun y : UInt8 => isBl (y.toNat : Int)) (l := t.data.toList.drop c)
 have heq := hpre.eq_of_length hlen
 have hall := List.all_takeWhile (p := fun y : UInt8 => isBl (y.toNat : Int)) (l := t.data.toList.drop c)
 rw [heq, List.all_eq_true] at hall
 exact hall
/-- Rules read from i on as far as blanks ahead of e. -/
def J (u : ByteArray) (i : Nat) (rs : List Ru) (e : Nat) : Prop := ∃ b, Chain u i rs b ∧ endOf isBl u b = endOf isBl u e
theorem J.start {u : ByteArray} {i i' e : Nat} {rs : List Ru} (h : J u i rs e) (he : endOf isBl u i' = endOf isBl u i) : J u i' rs e := by
 obtain ⟨b, h1, h2⟩ := h
 cases rs with
 | nil =>
  have : b = i := h1
  subst this
  exact ⟨i', rfl, he.trans h2⟩
 | cons r rs =>
  obtain ⟨z1, z2⟩ := h1
  exact ⟨b, ⟨by rw [he]; exact z1, by rw [he]; exact z2⟩, h2⟩
theorem chain_app {u : ByteArray} : ∀ {xs ys : List Ru} {i b c : Nat}, Chain u i xs b → Chain u b ys c → Chain u i (xs ++ ys) c
 | [], _, i, b, _, h, k => by
  have : b = i := h
  subst this
  exact k
 | x :: xs, _, _, _, _, ⟨h1, d, h2, h3⟩, k => ⟨h1, d, h2, chain_app h3 k⟩
theorem chain_cut {u : ByteArray} : ∀ {xs ys : List Ru} {i c : Nat}, Chain u i (xs ++ ys) c → ∃ b, Chain u i xs b ∧ Chain u b ys c
 | [], _, i, _, h => ⟨i, rfl, h⟩
 | x :: xs, _, _, _, ⟨h1, d, h2, h3⟩ => by
  obtain ⟨b, k1, k2⟩ := chain_cut h3
  exact ⟨b, ⟨h1, d, h2, k1⟩, k2⟩
theorem J.app {u : ByteArray} {i e f : Nat} {xs ys : List Ru} (h : J u i xs e) (k : J u e ys f) : J u i (xs ++ ys) f := by
 obtain ⟨b, h1, h2⟩ := h
 obtain ⟨c, k1, k2⟩ := k.start (i' := b) h2
 exact ⟨c, chain_app h1 k1, k2⟩
/-- A source that stands in another one. -/
theorem put {t u : ByteArray} {x : List Ru} {P Q : List UInt8} {n : Nat} (h8 : t.size ≤ 8000) (h : parseOf t = (x, 0, 0)) (hu : u.data.toList = P ++ (t.data.toList ++ Q)) (hn : n ≤ Q.length) (hQ : ∀ y ∈ Q.take n, isBl (y.toNat : Int) = true) : J u P.length x (P.length + t.size + n) := by
 obtain ⟨c, h1, h2, h3, _⟩ := src_chain h8 h
 obtain ⟨t', ht⟩ : ∃ t' : ByteArray, t'.data.toList = t.data.toList ++ Q := ⟨⟨⟨t.data.toList ++ Q⟩⟩, rfl⟩
 have us : u.size = P.length + t.size + Q.length := by
  have := congrArg List.length hu
  rw [ba_len, List.length_append, List.length_append, ba_len] at this
  omega
 have ts : t'.size = t.size + Q.length := by
  have := congrArg List.length ht
  rw [ba_len, List.length_append, ba_len] at this
  omega
 have ag : Ag t t' t.size := ⟨Nat.le_refl _, by omega, by rw [ht, List.take_append_of_le_length (by rw [ba_len]; omega)]⟩
 have k1 := chain_loc h1 (Nat.zero_le _) (ag.mono h2)
 have sx : Sx t' u P.length 0 := Sx.of (by
  rw [Nat.zero_add, List.drop_zero, hu, ht]
  exact (List.drop_left' rfl).symm)
 have k2 := chain_sh k1 sx
 rw [Nat.zero_add] at k2
 refine ⟨c + P.length, k2, ?_⟩
 have e := end_skip (u := u) (c := c + P.length) (n := (t.size - c) + n) ?_ (by omega)
 ·rw [← e]
  congr 1
  omega
 ·have d1 : u.data.toList.drop (c + P.length) = t.data.toList.drop c ++ Q := by
   rw [hu, show c + P.length = P.length + c by omega, ← List.drop_drop, List.drop_left' rfl, List.drop_append_of_le_length (by rw [ba_len]; exact h2)]
  have d2 : (t.data.toList.drop c).length = t.size - c := by rw [List.length_drop, ba_len]
  rw [d1, ← d2, List.take_length_add_append]
  intro y hy
  rcases List.mem_append.1 hy with hy | hy
  ·exact bl_end h3 h2 y hy
  ·exact hQ y hy
theorem parse_J {u : ByteArray} {z : List Ru} (h8 : u.size ≤ 8000) (h : J u 0 z u.size) : (z.length ≤ 40 → parseOf u = (z, 0, 0)) ∧ (40 < z.length → (parseOf u).1 = [] ∧ (parseOf u).2.2 = 2) := by
 obtain ⟨b, h1, h2⟩ := h
 rw [end_full] at h2
 have eu : parseOf u = parseGo (u.size + 1) u 0 [] := by unfold parseOf; rw [if_neg (by omega)]
 rw [eu]
 constructor
 ·intro hz
  obtain ⟨g, e1, e2⟩ := chain_parse [] (u.size + 1) h1 (by simpa using hz) (by omega) (Nat.zero_le _)
  rw [e2]
  obtain ⟨g, rfl⟩ : ∃ y, g = y + 1 := ⟨g - 1, by omega⟩
  unfold parseGo
  rw [h2, if_neg (by omega)]
  rfl
 ·intro hz
  have hl : (z.take 40).length = 40 := by rw [List.length_take]; omega
  rw [← List.take_append_drop 40 z] at h1
  obtain ⟨c, k1, k2⟩ := chain_cut h1
  obtain ⟨g, e1, e2⟩ := chain_parse [] (u.size + 1) k1 (by simp; omega) (by omega) (Nat.zero_le _)
  rw [e2, List.nil_append]
  obtain ⟨g, rfl⟩ : ∃ y, g = y + 1 := ⟨g - 1, by omega⟩
  have hd : (z.drop 40).length = z.length - 40 := List.length_drop
  cases hz2 : z.drop 40 with
  | nil => rw [hz2] at hd; simp at hd; omega
  | cons r rs =>
   rw [hz2] at k2
   obtain ⟨m1, d, m2, _⟩ := k2
   unfold parseGo
   rw [if_pos m1, if_pos hl]
   refine ⟨rfl, ?_⟩
   show overAt u (endOf isBl u c) = 2
   unfold overAt
   rw [if_pos]
   refine .inr (.inl ?_)
   unfold ruleAt at m2
   split at m2
   ·cases m2
   ·rename_i q a hw
    obtain ⟨_, f1, _, _, f4, _⟩ := word_ok (Nat.le_of_lt m1) hw
    have f5 : endOf isBl u (endOf isBl u c) = endOf isBl u c := by
     have := end_skip (u := u) (c := c) (n := endOf isBl u c - c) (fun y hy => by
      have e : (u.data.toList.drop c).take (endOf isBl u c - c) = (u.extract c (endOf isBl u c)).data.toList := (ext_list u c _).symm
      rw [e, ext_while] at hy
      have := List.all_takeWhile (p := fun y : UInt8 => isBl (y.toNat : Int)) (l := u.data.toList.drop c)
      rw [List.all_eq_true] at this
      exact this y hy) (by have := endOf_ge isBl u c; omega)
     rwa [show c + (endOf isBl u c - c) = endOf isBl u c by have := endOf_ge isBl u c; omega] at this
    rw [f5] at f1
    rw [f1] at f4
    omega
/-- RuleLayout's first half. -/
theorem lay1 {a b u : ByteArray} {x y : List Ru} {G : List UInt8} (ha : parseOf a = (x, 0, 0)) (hb : parseOf b = (y, 0, 0)) (sa : a.size ≤ 1000) (sb : b.size ≤ 1000) (hG : G.length ≤ 20) (gb : ∀ c ∈ G, isBl (c.toNat : Int) = true) (hu : u.data.toList = G ++ (a.data.toList ++ (G ++ (b.data.toList ++ G)))) :
  (x.length + y.length ≤ 40 → parseOf u = (x ++ y, 0, 0)) ∧ (40 < x.length + y.length → (parseOf u).1 = [] ∧ (parseOf u).2.2 = 2) := by
 have us : u.size = G.length + a.size + G.length + b.size + G.length := by
  have := congrArg List.length hu
  simp only [ba_len, List.length_append] at this
  omega
 have j1 := put (n := G.length) (by omega) ha hu (by simp) (by rw [List.take_left' rfl]; exact gb)
 have j2 := put (t := b) (u := u) (P := G ++ (a.data.toList ++ G)) (Q := G) (n := G.length) (by omega) hb (by rw [hu]; simp) (Nat.le_refl _) (by rw [List.take_length]; exact gb)
 have p2 : (G ++ (a.data.toList ++ G)).length = G.length + a.size + G.length := by simp only [List.length_append, ba_len]; omega
 rw [p2, ← us] at j2
 have j0 : J u 0 (x ++ y) u.size := (j1.app j2).start (by
  have := end_skip (u := u) (c := 0) (n := G.length) (by rw [List.drop_zero, hu, List.take_left' rfl]; exact gb) (by omega)
  rw [Nat.zero_add] at this
  exact this.symm)
 have := parse_J (by omega) j0
 rwa [List.length_append] at this
/-- A byte becomes itself, or, a blank, blanks. -/
def Gm (g : UInt8 → List UInt8) : Prop := ∀ c : UInt8, (isBl (c.toNat : Int) = false → g c = [c]) ∧ (isBl (c.toNat : Int) = true → g c ≠ [] ∧ ∀ y ∈ g c, isBl (y.toNat : Int) = true)
def Dr (g : UInt8 → List UInt8) (s s' : ByteArray) (i i' : Nat) : Prop := s'.data.toList.drop i' = (s.data.toList.drop i).flatMap g
section
variable {g : UInt8 → List UInt8} {s s' : ByteArray}
theorem Gm.ne (hg : Gm g) (c : UInt8) : g c ≠ [] := by
 cases h : isBl (c.toNat : Int) with
 | true => exact ((hg c).2 h).1
 | false => rw [(hg c).1 h]; simp
theorem dw_flat (hg : Gm g) : ∀ l : List UInt8, (l.flatMap g).dropWhile (fun b => isBl (b.toNat : Int)) = (l.dropWhile fun b => isBl (b.toNat : Int)).flatMap g
 | [] => rfl
 | c :: l => by
  cases h : isBl (c.toNat : Int) with
  | false => rw [List.flatMap_cons, (hg c).1 h, List.singleton_append, List.dropWhile_cons, List.dropWhile_cons, h, if_neg (by simp), if_neg (by simp), List.flatMap_cons, (hg c).1 h, List.singleton_append]
  | true => rw [List.flatMap_cons, List.dropWhile_append_of_pos ((hg c).2 h).2, dw_flat hg l, List.dropWhile_cons, h, if_pos rfl]
theorem tw_flat (hg : Gm g) {p : UInt8 → Bool} (hp : ∀ c, p c = true → isBl (c.toNat : Int) = false) : ∀ l : List UInt8, (l.flatMap g).takeWhile p = l.takeWhile p ∧ (l.flatMap g).dropWhile p = (l.dropWhile p).flatMap g
 | [] => ⟨rfl, rfl⟩
 | c :: l => by
  have ih := tw_flat hg hp l
  cases h : p c with
  | true =>
   have e := (hg c).1 (hp c h)
   rw [List.flatMap_cons, e, List.singleton_append, List.takeWhile_cons, List.takeWhile_cons, List.dropWhile_cons, List.dropWhile_cons, h, if_pos rfl, if_pos rfl, if_pos rfl, if_pos rfl, ih.1, ih.2]
   exact ⟨rfl, rfl⟩
  | false =>
   obtain ⟨y, ys, e, hy⟩ : ∃ y ys, g c = y :: ys ∧ p y = false := by
    cases hb : isBl (c.toNat : Int) with
    | false => exact ⟨c, [], (hg c).1 hb, h⟩
    | true =>
     obtain ⟨h1, h2⟩ := (hg c).2 hb
     cases hgc : g c with
     | nil => exact absurd hgc h1
     | cons y ys =>
      refine ⟨y, ys, rfl, ?_⟩
      cases hpy : p y with
      | false => rfl
      | true =>
       have := h2 y (by rw [hgc]; simp)
       rw [hp y hpy] at this
       cases this
   rw [List.takeWhile_cons, List.dropWhile_cons, h, if_neg (by simp), if_neg (by simp), List.flatMap_cons, e, List.cons_append, List.takeWhile_cons, List.dropWhile_cons, hy, if_neg (by simp), if_neg (by simp)]
   exact ⟨rfl, rfl⟩
theorem drop_end (p : Int → Bool) (s : ByteArray) (i : Nat) : s.data.toList.drop (endOf p s i) = (s.data.toList.drop i).dropWhile fun b => p (b.toNat : Int) := by
 unfold endOf
 rw [← List.drop_drop]
 generalize s.data.toList.drop i = l
 have h := List.drop_left (l₁ := l.takeWhile fun b => p (b.toNat : Int)) (l₂ := l.dropWhile fun b => p (b.toNat : Int))
 rwa [List.takeWhile_append_dropWhile] at h
theorem Dr.bl (hg : Gm g) {i i' : Nat} (h : Dr g s s' i i') : Dr g s s' (endOf isBl s i) (endOf isBl s' i') := by
 unfold Dr at h ⊢
 rw [drop_end, drop_end, h, dw_flat hg]
theorem Dr.tok (hg : Gm g) {p : Int → Bool} (hp : ∀ c : UInt8, p (c.toNat : Int) = true → isBl (c.toNat : Int) = false) {i i' : Nat} (h : Dr g s s' i i') : ∃ n, endOf p s i = i + n ∧ endOf p s' i' = i' + n ∧ s'.extract i' (i' + n) = s.extract i (i + n) ∧ Dr g s s' (i + n) (i' + n) := by
 obtain ⟨t1, t2⟩ := tw_flat hg (p := fun b => p (b.toNat : Int)) hp (s.data.toList.drop i)
 have e1 : endOf p s i = i + ((s.data.toList.drop i).takeWhile fun b => p (b.toNat : Int)).length := rfl
 have e2 : endOf p s' i' = i' + ((s.data.toList.drop i).takeWhile fun b => p (b.toNat : Int)).length := by
  unfold endOf
  rw [h, t1]
 refine ⟨_, e1, e2, ?_, ?_⟩
 ·rw [← e1, ← e2]
  have e : (s'.extract i' (endOf p s' i')).data.toList = (s.extract i (endOf p s i)).data.toList := by rw [ext_while, ext_while, h, t1]
  exact ba_of e
 ·rw [← e1, ← e2]
  unfold Dr
  rw [drop_end, drop_end, h, t2]
theorem flat_nil (hg : Gm g) : ∀ l : List UInt8, l.flatMap g = [] → l = []
 | [], _ => rfl
 | c :: l, h => by
  rw [List.flatMap_cons, List.append_eq_nil_iff] at h
  exact absurd h.1 (hg.ne c)
theorem Dr.lt (hg : Gm g) {i i' : Nat} (h : Dr g s s' i i') : i < s.size ↔ i' < s'.size := by
 have a1 : ∀ (t : ByteArray) (j : Nat), j < t.size ↔ t.data.toList.drop j ≠ [] := fun t j => by
  rw [Ne, List.drop_eq_nil_iff, ba_len]
  omega
 rw [a1, a1, h]
 exact ⟨fun h1 h2 => h1 (flat_nil hg _ h2), fun h1 h2 => h1 (by rw [h2]; rfl)⟩
theorem Dr.at_ (hg : Gm g) {i i' : Nat} (h : Dr g s s' i i') (hi : i < s.size) (hb : isBl (bAt s i) = false) : bAt s' i' = bAt s i ∧ Dr g s s' (i + 1) (i' + 1) := by
 have hi' := (h.lt hg).1 hi
 unfold Dr at h
 rw [drop_at hi, drop_at hi', List.flatMap_cons, (hg _).1 hb, List.singleton_append] at h
 injection h with h1 h2
 refine ⟨?_, h2⟩
 unfold bAt
 rw [h1]
theorem Dr.word (hg : Gm g) {ls : List ByteArray} {i i' k a : Nat} (h : Dr g s s' i i') (hi : i ≤ s.size) (hw : wordAt ls s i = .ok (k, a)) : ∃ a', wordAt ls s' i' = .ok (k, a') ∧ Dr g s s' (a + (ls.getD k ⟨#[]⟩).size) (a' + (ls.getD k ⟨#[]⟩).size) := by
 obtain ⟨_, e1, _, _, h4, h5, _⟩ := word_ok hi hw
 obtain ⟨n, t1, t2, t3, t4⟩ := (h.bl hg).tok hg (p := inR 97 122) (fun c hc => by unfold inR at hc; unfold isBl; simp at hc ⊢; omega)
 rw [← e1] at t1 t3 t4
 refine ⟨endOf isBl s' i', ?_, ?_⟩
 ·unfold wordAt at hw ⊢
  rw [← e1, t1, if_neg (by omega)] at hw
  rw [t2, if_neg (by omega), t3]
  split at hw
  ·cases hw
  ·rename_i hneg
   rw [if_neg hneg]
   injection hw with hw
   injection hw with h7 h8
   rw [h7]
 ·rw [h5, t1, show a + (a + n - a) = a + n by omega, show a + n - a = n by omega]
  exact t4
theorem Dr.kind (hg : Gm g) {q i i' k j : Nat} (h : Dr g s s' i i') (hi : i ≤ s.size) (hk : kindAt q s i = .ok (k, j)) : ∃ j', kindAt q s' i' = .ok (k, j') ∧ Dr g s s' j j' := by
 unfold kindAt at hk
 split at hk
 ·cases hk
 ·rename_i k' a' h5
  split at hk
  ·rename_i hc
   injection hk with hk
   injection hk with h6 h7
   subst h6 h7
   obtain ⟨b', w1, w2⟩ := h.word hg hi h5
   refine ⟨b' + (kdA k').size, ?_, w2⟩
   unfold kindAt
   rw [w1]
   dsimp only
   rw [if_pos hc]
  ·cases hk
theorem Dr.num (hg : Gm g) {q i i' j : Nat} {n : Int} (h : Dr g s s' i i') (hn : numAt q s i = .ok (n, j)) : ∃ j', numAt q s' i' = .ok (n, j') ∧ Dr g s s' j j' := by
 obtain ⟨m, t1, t2, t3, t4⟩ := h.tok hg (p := inR 48 57) (fun c hc => by unfold inR at hc; unfold isBl; simp at hc ⊢; omega)
 refine ⟨i' + m, ?_, ?_⟩
 ·unfold numAt at hn ⊢
  rw [t1] at hn
  rw [t2, t3]
  split at hn
  ·rename_i c1
   rw [if_pos c1]
   split at hn
   ·rename_i c2
    rw [if_pos c2]
    injection hn with hn
    injection hn with h1 h2
    rw [h1]
   ·cases hn
  ·cases hn
 ·unfold numAt at hn
  rw [t1] at hn
  split at hn
  ·split at hn
   ·injection hn with hn
    injection hn with h1 h2
    rw [← h2]
    exact t4
   ·cases hn
  ·cases hn
theorem Dr.tail (hg : Gm g) {i i' b : Nat} (h : Dr g s s' i i') (ht : tailAt s i = .ok b) : ∃ b', tailAt s' i' = .ok b' ∧ Dr g s s' b b' := by
 unfold tailAt at ht
 split at ht
 ·rename_i h1
  injection ht with ht
  subst ht
  have hb := h.bl hg
  obtain ⟨e1, e2⟩ := hb.at_ hg h1.1 (by rw [h1.2]; rfl)
  refine ⟨endOf isBl s' i' + 1, ?_, e2⟩
  unfold tailAt
  rw [if_pos ⟨(hb.lt hg).1 h1.1, by rw [e1]; exact h1.2⟩]
 ·cases ht
theorem Dr.rest (hg : Gm g) {q k i i' b : Nat} {r : Ru} (h : Dr g s s' i i') (hr : restAt q k s i = .ok (r, b)) : ∃ b', restAt q k s' i' = .ok (r, b') ∧ Dr g s s' b b' := by
 have hb := h.bl hg
 unfold restAt at hr
 split at hr
 ·rename_i h5
  split at hr
  ·cases hr
  ·rename_i b1 h1
   injection hr with hr
   injection hr with h2 h3
   subst h3
   obtain ⟨b', w1, w2⟩ := hb.tail hg h1
   refine ⟨b', ?_, w2⟩
   unfold restAt
   rw [if_pos h5, w1]
   simp only [h2]
 ·rename_i h5
  split at hr
  ·cases hr
  ·rename_i n j h1
   split at hr
   ·cases hr
   ·rename_i b1 h2
    injection hr with hr
    injection hr with h3 h4
    subst h4
    obtain ⟨j', v1, v2⟩ := hb.num hg h1
    obtain ⟨b', w1, w2⟩ := v2.tail hg h2
    refine ⟨b', ?_, w2⟩
    unfold restAt
    rw [if_neg h5, v1]
    simp only [w1, h3]
theorem Dr.rule (hg : Gm g) {i i' b : Nat} {r : Ru} (h : Dr g s s' i i') (hi : i ≤ s.size) (hr : ruleAt s i = .ok (r, b)) : ∃ b', ruleAt s' i' = .ok (r, b') ∧ Dr g s s' b b' := by
 unfold ruleAt at hr
 split at hr
 ·cases hr
 ·rename_i q a h1
  obtain ⟨a', w1, w2⟩ := h.word hg hi h1
  have hop := op_ok hi h1
  split at hr
  ·rename_i h2
   subst h2
   obtain ⟨b', v1, v2⟩ := Dr.rest hg w2 hr
   refine ⟨b', ?_, v2⟩
   unfold ruleAt
   rw [w1]
   dsimp only
   rw [if_pos rfl]
   exact v1
  ·rename_i h2
   split at hr
   ·cases hr
   ·rename_i k j h3
    obtain ⟨j', u1, u2⟩ := Dr.kind hg w2 hop.2.2 h3
    obtain ⟨b', v1, v2⟩ := u2.rest hg hr
    refine ⟨b', ?_, v2⟩
    unfold ruleAt
    rw [w1]
    dsimp only
    rw [if_neg h2]
    have u1' : kindAt q s' (a' + (opA q).size) = .ok (k, j') := u1
    rw [u1']
    exact v1
theorem Dr.chain (hg : Gm g) : ∀ {rs : List Ru} {i i' b : Nat}, Dr g s s' i i' → i ≤ s.size → Chain s i rs b → ∃ b', Chain s' i' rs b' ∧ Dr g s s' b b'
 | [], i, i', b, h, _, hc => by
  have : b = i := hc
  subst this
  exact ⟨i', rfl, h⟩
 | r :: rs, i, i', b, h, hi, hc => by
  obtain ⟨h1, c, h2, h3⟩ := hc
  have hb := h.bl hg
  have hp := rule_prog h2
  obtain ⟨c', v1, v2⟩ := hb.rule hg (by omega) h2
  obtain ⟨b', w1, w2⟩ := Dr.chain hg v2 hp.2 h3
  exact ⟨b', ⟨(hb.lt hg).1 h1, c', v1, w1⟩, w2⟩
/-- RuleLayout's second half. -/
theorem lay2 (hg : Gm g) {x : List Ru} (h : parseOf s = (x, 0, 0)) (h1 : s.size ≤ 1000) (h2 : s'.size ≤ 8000) (hs : s'.data.toList = s.data.toList.flatMap g) : parseOf s' = (x, 0, 0) := by
 obtain ⟨c, k1, k2, k3, k4⟩ := src_chain (by omega) h
 obtain ⟨b', w1, w2⟩ := Dr.chain hg (show Dr g s s' 0 0 by unfold Dr; rw [List.drop_zero, List.drop_zero]; exact hs) (Nat.zero_le _) k1
 have hb := w2.bl hg
 rw [k3] at hb
 have hlt := hb.lt hg
 have hbs := chain_b w1 (Nat.zero_le _)
 have hle := endOf_le (p := isBl) hbs.2.1
 refine (parse_J h2 ⟨b', w1, ?_⟩).1 k4
 rw [end_full]
 omega
end
theorem gm_wide : Gm fun c => if c = 32 then [32, 32] else [c] := by
 intro c
 dsimp only
 by_cases h : c = 32
 ·subst h
  refine ⟨fun h => absurd h (by decide), fun _ => ⟨by simp, fun y hy => ?_⟩⟩
  rw [if_pos rfl] at hy
  simp at hy
  subst hy
  rfl
 ·refine ⟨fun _ => if_neg h, fun hb => ?_⟩
  rw [if_neg h]
  exact ⟨by simp, fun y hy => by rw [List.mem_singleton.1 hy]; exact hb⟩
theorem gm_lines : Gm fun c => if c = 32 then [10] else [c] := by
 intro c
 dsimp only
 by_cases h : c = 32
 ·subst h
  refine ⟨fun h => absurd h (by decide), fun _ => ⟨by simp, fun y hy => ?_⟩⟩
  rw [if_pos rfl] at hy
  simp at hy
  subst hy
  rfl
 ·refine ⟨fun _ => if_neg h, fun hb => ?_⟩
  rw [if_neg h]
  exact ⟨by simp, fun y hy => by rw [List.mem_singleton.1 hy]; exact hb⟩
end Go.Proofs.YtfeccolljfkejaaGreatDoor
