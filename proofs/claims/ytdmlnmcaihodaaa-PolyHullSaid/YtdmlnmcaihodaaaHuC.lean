/- Half a hull: its corners turn left, and have all places on their left. Ways round that turn left everywhere and have all corners on the left of each edge: they are polygons, and have the places on the left of all edges. Convex polygons: their places are those on the left of all edges. -/
import Derived.Test.YtdmlnmcaihodaaaPou
import Derived.Test.YtdmlnmcaihodaaaJoN
namespace Go.Proofs.Ytdmlnmcaihodaaa
set_option linter.unusedVariables false
set_option linter.unusedSimpArgs false

def xx (u v : Pt) : Int := u.1 * v.2 - u.2 * v.1
/-- A vector that leads on in the order. -/
def lp (v : Pt) : Prop := 0 < v.1 ∨ (v.1 = 0 ∧ 0 < v.2)
def ltP (a b : Pt) : Prop := a.1 < b.1 ∨ (a.1 = b.1 ∧ a.2 < b.2)
theorem lp_df {a b : Pt} (h : ltP a b) : lp (df b a) := by unfold ltP at h; unfold lp df; dsimp only; omega
theorem ltP.trans {a b c : Pt} (h : ltP a b) (k : ltP b c) : ltP a c := by unfold ltP at *; omega
theorem ltP.ne {a b : Pt} (h : ltP a b) : a ≠ b := by rintro rfl; unfold ltP at h; omega
theorem ltP.asymm {a b : Pt} (h : ltP a b) : ¬ ltP b a := by unfold ltP at *; omega
theorem ltP.total (a b : Pt) : a = b ∨ ltP a b ∨ ltP b a := by
  by_cases h : a = b
  · exact .inl h
  · refine .inr ?_
    unfold ltP
    by_cases h1 : a.1 = b.1
    · have : a.2 ≠ b.2 := fun e => h (Prod.ext h1 e)
      omega
    · omega
theorem xx_id1 (u v w : Pt) : xx u w * v.1 = xx u v * w.1 + xx v w * u.1 := by unfold xx; grind
theorem xx_id2 (u v w : Pt) : xx u w * v.2 = xx u v * w.2 + xx v w * u.2 := by unfold xx; grind
theorem nn_mul {x y : Int} (hx : 0 ≤ x) (hy : 0 ≤ y) : 0 ≤ x * y := Int.mul_nonneg hx hy
theorem lp_flat {v w : Pt} (hw : lp w) (h1 : v.1 = 0) (hv : 0 < v.2) (h : 0 ≤ xx v w) : w.1 = 0 ∧ 0 < w.2 := by
  unfold xx at h
  rw [h1, Int.zero_mul] at h
  have : w.1 ≤ 0 := by
    rcases Int.lt_or_le 0 w.1 with c | c
    · have := Int.mul_pos hv c
      omega
    · exact c
  unfold lp at hw
  omega
theorem xx_trans {u v w : Pt} (hu : lp u) (hv : lp v) (hw : lp w) (h1 : 0 ≤ xx u v) (h2 : 0 ≤ xx v w) : 0 ≤ xx u w := by
  rcases Int.lt_or_le (xx u w) 0 with c | c
  · exfalso
    have e1 := xx_id1 u v w
    have e2 := xx_id2 u v w
    have hu1 : 0 ≤ u.1 := by unfold lp at hu; omega
    have hw1 : 0 ≤ w.1 := by unfold lp at hw; omega
    rcases hv with k | ⟨k, k2⟩
    · have a1 := nn_mul h1 hw1
      have a2 := nn_mul h2 hu1
      have a3 := Int.mul_neg_of_neg_of_pos c k
      omega
    · obtain ⟨w1, w2⟩ := lp_flat hw k k2 h2
      have a1 := nn_mul h1 (Int.le_of_lt w2)
      have a3 := Int.mul_neg_of_neg_of_pos c k2
      have e0 : xx v w = 0 := by unfold xx; rw [k, w1]; simp
      rw [e0, Int.zero_mul, Int.add_zero] at e2
      omega
  · exact c
theorem xx_trans1 {u v w : Pt} (hu : lp u) (hv : lp v) (hw : lp w) (h1 : 0 < xx u v) (h2 : 0 ≤ xx v w) : 0 < xx u w := by
  have h0 := xx_trans hu hv hw (Int.le_of_lt h1) h2
  rcases Int.lt_or_le 0 (xx u w) with c | c
  · exact c
  · exfalso
    have ez : xx u w = 0 := by omega
    have e1 := xx_id1 u v w
    have e2 := xx_id2 u v w
    rw [ez, Int.zero_mul] at e1 e2
    have hu1 : 0 ≤ u.1 := by unfold lp at hu; omega
    have hw1 : 0 ≤ w.1 := by unfold lp at hw; omega
    rcases hv with k | ⟨k, k2⟩
    · have a1 := nn_mul (Int.le_of_lt h1) hw1
      have a2 := nn_mul h2 hu1
      have b1 : w.1 = 0 := by
        rcases Int.mul_eq_zero.1 (show xx u v * w.1 = 0 by omega) with e | e <;> omega
      have b2 : 0 < xx v w := by
        unfold xx
        rw [b1, Int.mul_zero, Int.sub_zero]
        unfold lp at hw
        exact Int.mul_pos k (by omega)
      have b3 : u.1 = 0 := by
        rcases Int.mul_eq_zero.1 (show xx v w * u.1 = 0 by omega) with e | e <;> omega
      unfold xx at h1
      rw [b3, Int.zero_mul] at h1
      have := Int.mul_pos (show 0 < u.2 by unfold lp at hu; omega) k
      omega
    · obtain ⟨w1, w2⟩ := lp_flat hw k k2 h2
      have e0 : xx v w = 0 := by unfold xx; rw [k, w1]; simp
      rw [e0, Int.zero_mul, Int.add_zero] at e2
      have := Int.mul_pos h1 w2
      omega
theorem xx_trans2 {u v w : Pt} (hu : lp u) (hv : lp v) (hw : lp w) (h1 : 0 ≤ xx u v) (h2 : 0 < xx v w) : 0 < xx u w := by
  rcases Int.lt_or_le 0 (xx u w) with c | c
  · exact c
  · exfalso
    have h0 := xx_trans hu hv hw h1 (Int.le_of_lt h2)
    have ez : xx u w = 0 := by omega
    have e1 := xx_id1 u v w
    rw [ez, Int.zero_mul] at e1
    have hu1 : 0 ≤ u.1 := by unfold lp at hu; omega
    have hw1 : 0 ≤ w.1 := by unfold lp at hw; omega
    rcases hv with k | ⟨k, k2⟩
    · have a1 := nn_mul h1 hw1
      have a2 := nn_mul (Int.le_of_lt h2) hu1
      have b3 : u.1 = 0 := by
        rcases Int.mul_eq_zero.1 (show xx v w * u.1 = 0 by omega) with e | e <;> omega
      unfold xx at h1
      rw [b3, Int.zero_mul] at h1
      have := Int.mul_pos (show 0 < u.2 by unfold lp at hu; omega) k
      omega
    · obtain ⟨w1, w2⟩ := lp_flat hw k k2 (Int.le_of_lt h2)
      unfold xx at h2
      rw [k, w1] at h2
      simp at h2

/-- What the corners C of half a hull of the places S are. -/
structure Chn (S C : List Pt) : Prop where
  ne : 0 < C.length
  mem : ∀ c, c ∈ C → c ∈ S
  inc : ∀ i, i + 1 < C.length → ltP (cor C i) (cor C (i + 1))
  bend : ∀ i, i + 2 < C.length → 0 < cr (cor C i) (cor C (i + 1)) (cor C (i + 2))
  left : ∀ i, i + 1 < C.length → ∀ p, p ∈ S → 0 ≤ cr (cor C i) (cor C (i + 1)) p
  low : ∀ p, p ∈ S → p = cor C 0 ∨ ltP (cor C 0) p
  high : ∀ p, p ∈ S → p = cor C (C.length - 1) ∨ ltP p (cor C (C.length - 1))
theorem cor_mem {C : List Pt} {i : Nat} (h : i < C.length) : cor C i ∈ C := List.mem_of_getElem? (cor_get h)
theorem cor_push1 {C : List Pt} {q : Pt} {k i : Nat} (hk : k ≤ C.length) (hi : i < k) : cor (C.take k ++ [q]) i = cor C i := by
  have h1 : (C.take k ++ [q]).length = k + 1 := by simp; omega
  have a := cor_get (ps := C.take k ++ [q]) (k := i) (by omega)
  have b := cor_get (ps := C) (k := i) (by omega)
  rw [List.getElem?_append_left (by simp; omega), List.getElem?_take, if_pos hi, b] at a
  injection a with a
  exact a.symm
theorem cor_push2 {C : List Pt} {q : Pt} {k : Nat} (hk : k ≤ C.length) : cor (C.take k ++ [q]) k = q := by
  have h1 : (C.take k ++ [q]).length = k + 1 := by simp; omega
  have a := cor_get (ps := C.take k ++ [q]) (k := k) (by omega)
  rw [List.getElem?_append_right (by simp; omega), List.length_take, Nat.min_eq_left hk, Nat.sub_self] at a
  simpa using a.symm
theorem pop_step {S : List Pt} {a b q : Pt} (hab : ltP a b) (hbq : ltP b q) (hq : ∀ p, p ∈ S → ltP p q) (hle : cr a b q ≤ 0) (hL : ∀ p, p ∈ S → 0 ≤ cr a b p) (hH : ∀ p, p ∈ S → ltP b p → 0 ≤ cr b q p) :
    ∀ p, p ∈ S → (a = p ∨ ltP a p) → 0 ≤ cr a q p := by
  intro p hp hap
  rcases hap with rfl | hap
  · have : cr a q a = 0 := by unfold cr; grind
    omega
  · rcases ltP.total p b with rfl | h | h
    · have : cr a q p = -cr a p q := by unfold cr; grind
      omega
    · have h1 := hL p hp
      have e1 : cr a b p = xx (df b a) (df p a) := by unfold cr xx df; grind
      have e2 : cr a b q = -xx (df q a) (df b a) := by unfold cr xx df; grind
      have e3 : cr a q p = xx (df q a) (df p a) := by unfold cr xx df; grind
      rw [e3]
      exact xx_trans (lp_df (hab.trans hbq)) (lp_df hab) (lp_df hap) (by omega) (by omega)
    · have h1 := hH p hp h
      have e1 : cr b q p = xx (df q p) (df q b) := by unfold cr xx df; grind
      have e2 : cr a b q = -xx (df q b) (df b a) := by unfold cr xx df; grind
      have e3 : cr a q p = xx (df q p) (df q b) + xx (df q p) (df b a) := by unfold cr xx df; grind
      have := xx_trans (lp_df (hq p hp)) (lp_df hbq) (lp_df hab) (by omega) (by omega)
      omega
theorem pop_spec {S C : List Pt} {q : Pt} (h : Chn S C) (hq : ∀ p, p ∈ S → ltP p q) : ∀ j, 1 ≤ j → j ≤ C.length → (∀ p, p ∈ S → (cor C (j - 1) = p ∨ ltP (cor C (j - 1)) p) → 0 ≤ cr (cor C (j - 1)) q p) →
    1 ≤ popK C q j ∧ popK C q j ≤ j ∧ (∀ m, popK C q j = m + 2 → 0 < cr (cor C m) (cor C (m + 1)) q) ∧ (∀ p, p ∈ S → (cor C (popK C q j - 1) = p ∨ ltP (cor C (popK C q j - 1)) p) → 0 ≤ cr (cor C (popK C q j - 1)) q p)
  | 0, h1, _, _ => absurd h1 (by omega)
  | 1, _, _, hp => by
    have e : popK C q 1 = 1 := by unfold popK; rfl
    rw [e]
    exact ⟨Nat.le_refl _, Nat.le_refl _, fun m hm => by omega, hp⟩
  | m + 2, _, h2, hp => by
    by_cases c : tn (cor C m) (cor C (m + 1)) q ≤ 0
    · have e : popK C q (m + 2) = popK C q (m + 1) := by
        conv => lhs; unfold popK
        rw [if_pos c]
      rw [e]
      have hle : cr (cor C m) (cor C (m + 1)) q ≤ 0 := by
        rcases Int.lt_or_le 0 (cr (cor C m) (cor C (m + 1)) q) with x | x
        · have := sg_pos.2 x
          unfold tn at c
          omega
        · exact x
      have hb := h.inc m (by omega)
      have hbS := h.mem _ (cor_mem (C := C) (i := m + 1) (by omega))
      obtain ⟨a1, a2, a3, a4⟩ := pop_spec h hq (m + 1) (by omega) (by omega) (pop_step hb (hq _ hbS) hq hle (h.left m (by omega)) (fun p hpS hlt => hp p hpS (.inr hlt)))
      exact ⟨a1, by omega, a3, a4⟩
    · have e : popK C q (m + 2) = m + 2 := by
        conv => lhs; unfold popK
        rw [if_neg c]
      rw [e]
      refine ⟨by omega, by omega, fun m' hm' => ?_, hp⟩
      obtain rfl : m' = m := by omega
      unfold tn at c
      exact sg_pos.1 (by omega)
theorem chn_one (q : Pt) : Chn [q] [q] := by
  have h0 : ∀ i, cor [q] i = q := by
    intro i
    unfold cor
    rw [show [q].length = 1 from rfl, Nat.mod_one]
    rfl
  refine ⟨by simp, fun c h => h, fun i h => ?_, fun i h => ?_, fun i h => ?_, fun p hp => .inl ?_, fun p hp => .inl ?_⟩
  · simp at h
  · simp at h
  · simp at h
  · rw [h0]; simpa using hp
  · rw [h0]; simpa using hp
theorem chn_push {S C : List Pt} {q : Pt} (h : Chn S C) (hq : ∀ p, p ∈ S → ltP p q) : Chn (S ++ [q]) (pushQ C q) := by
  have hne := h.ne
  obtain ⟨k1, k2, k3, k4⟩ := pop_spec h hq C.length (by omega) (Nat.le_refl _) (by
    intro p hp hle
    rcases h.high p hp with e | e
    · rw [e]
      have : cr (cor C (C.length - 1)) q (cor C (C.length - 1)) = 0 := by unfold cr; grind
      omega
    · rcases hle with e2 | e2
      · exact absurd e2.symm e.ne
      · exact absurd e e2.asymm)
  unfold pushQ
  generalize popK C q C.length = k at *
  have hl : (C.take k ++ [q]).length = k + 1 := by simp; omega
  have inq : ∀ i, i < C.length → ltP (cor C i) q := fun i hi => hq _ (h.mem _ (cor_mem hi))
  -- the new place is on the left of the old edges
  have hnew : ∀ d i, i + 2 + d = k → 0 < cr (cor C i) (cor C (i + 1)) q := by
    intro d
    induction d with
    | zero => exact fun i hi => k3 i hi.symm
    | succ d ih =>
      intro i hi
      have g1 := ih (i + 1) (by omega)
      have g2 := h.bend i (by omega)
      have e1 : cr (cor C i) (cor C (i + 1)) (cor C (i + 2)) = xx (df (cor C (i + 1)) (cor C i)) (df (cor C (i + 2)) (cor C (i + 1))) := by unfold cr xx df; grind
      have e2 : cr (cor C (i + 1)) (cor C (i + 1 + 1)) q = xx (df (cor C (i + 2)) (cor C (i + 1))) (df q (cor C (i + 2))) := by rw [show i + 1 + 1 = i + 2 by omega]; unfold cr xx df; grind
      have e3 : cr (cor C i) (cor C (i + 1)) q = xx (df (cor C (i + 1)) (cor C i)) (df (cor C (i + 2)) (cor C (i + 1))) + xx (df (cor C (i + 1)) (cor C i)) (df q (cor C (i + 2))) := by unfold cr xx df; grind
      have i1 := h.inc (i + 1) (by omega)
      rw [show i + 1 + 1 = i + 2 by omega] at i1
      have := xx_trans1 (lp_df (h.inc i (by omega))) (lp_df i1) (lp_df (inq (i + 2) (by omega))) (by omega) (by omega)
      omega
  refine ⟨by omega, fun c hc => ?_, fun i hi => ?_, fun i hi => ?_, fun i hi p hp => ?_, fun p hp => ?_, fun p hp => ?_⟩
  · rcases List.mem_append.1 hc with x | x
    · exact List.mem_append_left _ (h.mem c (List.mem_of_mem_take x))
    · exact List.mem_append_right _ x
  · by_cases c : i + 1 < k
    · rw [cor_push1 k2 (by omega), cor_push1 k2 c]
      exact h.inc i (by omega)
    · obtain rfl : k = i + 1 := by omega
      rw [cor_push1 k2 (by omega), cor_push2 k2]
      exact inq i (by omega)
  · by_cases c : i + 2 < k
    · rw [cor_push1 k2 (by omega), cor_push1 k2 (by omega), cor_push1 k2 c]
      exact h.bend i (by omega)
    · obtain rfl : k = i + 2 := by omega
      rw [cor_push1 k2 (by omega), cor_push1 k2 (by omega), cor_push2 k2]
      exact hnew 0 i rfl
  · by_cases c : i + 1 < k
    · rw [cor_push1 k2 (by omega), cor_push1 k2 c]
      rcases List.mem_append.1 hp with x | x
      · exact h.left i (by omega) p x
      · rw [List.mem_singleton.1 x]
        exact Int.le_of_lt (hnew (k - (i + 2)) i (by omega))
    · obtain rfl : k = i + 1 := by omega
      rw [cor_push1 k2 (by omega), cor_push2 k2]
      rcases List.mem_append.1 hp with x | x
      · rw [show i + 1 - 1 = i by omega] at k4
        rcases ltP.total (cor C i) p with e | e | e
        · exact k4 p x (.inl e)
        · exact k4 p x (.inr e)
        · have hi0 : 0 < i := by
            rcases Nat.eq_zero_or_pos i with z | z
            · subst z
              rcases h.low p x with e2 | e2
              · rw [e2] at e
                exact absurd rfl e.ne
              · exact absurd e e2.asymm
            · exact z
          obtain ⟨m, rfl⟩ : ∃ m, i = m + 1 := ⟨i - 1, by omega⟩
          have g1 := k3 m rfl
          have g2 := h.left m (by omega) p x
          have e1 : cr (cor C m) (cor C (m + 1)) p = xx (df (cor C (m + 1)) p) (df (cor C (m + 1)) (cor C m)) := by unfold cr xx df; grind
          have e2 : cr (cor C m) (cor C (m + 1)) q = xx (df (cor C (m + 1)) (cor C m)) (df q (cor C (m + 1))) := by unfold cr xx df; grind
          have e3 : cr (cor C (m + 1)) q p = xx (df (cor C (m + 1)) p) (df q (cor C (m + 1))) := by unfold cr xx df; grind
          rw [e3]
          exact xx_trans (lp_df e) (lp_df (h.inc m (by omega))) (lp_df (inq (m + 1) (by omega))) (by omega) (by omega)
      · rw [List.mem_singleton.1 x]
        have : cr (cor C i) q q = 0 := by unfold cr; grind
        omega
  · rw [cor_push1 k2 (by omega)]
    rcases List.mem_append.1 hp with x | x
    · exact h.low p x
    · rw [List.mem_singleton.1 x]
      exact .inr (inq 0 hne)
  · rw [hl, show k + 1 - 1 = k by omega, cor_push2 k2]
    rcases List.mem_append.1 hp with x | x
    · exact .inr (hq p x)
    · exact .inl (List.mem_singleton.1 x)
/-- Half a hull of places in order. -/
theorem chn_half : ∀ (L S C : List Pt), Chn S C → (S ++ L).Pairwise ltP → Chn (S ++ L) (L.foldl pushQ C)
  | [], S, C, h, _ => by rw [List.append_nil]; exact h
  | q :: L, S, C, h, hs => by
    have hq : ∀ p, p ∈ S → ltP p q := fun p hp => (List.pairwise_append.1 hs).2.2 p hp q (by simp)
    have := chn_half L (S ++ [q]) (pushQ C q) (chn_push h hq) (by rw [List.append_assoc]; exact hs)
    rw [List.append_assoc] at this
    exact this
theorem chn_halfL {L : List Pt} (hn : L ≠ []) (hs : L.Pairwise ltP) : Chn L (halfL L) := by
  match L, hn with
  | q :: L, _ =>
    have e : halfL (q :: L) = L.foldl pushQ [q] := by
      unfold halfL
      rw [List.foldl_cons]
      rfl
    rw [e]
    exact chn_half L [q] [q] (chn_one q) hs
end Go.Proofs.Ytdmlnmcaihodaaa
namespace Go.Proofs.Ytdmlnmcaihodaaa
set_option linter.unusedVariables false
set_option linter.unusedSimpArgs false

/-- A way round that is convex. -/
structure Cvx (cs : List Pt) : Prop where
  len : 3 ≤ cs.length
  left : ∀ i j, 0 ≤ cr (cor cs i) (cor cs (i + 1)) (cor cs j)
  turn : ∀ i, 0 < cr (cor cs i) (cor cs (i + 1)) (cor cs (i + 2))
  inj : ∀ i j, i < cs.length → j < cs.length → cor cs i = cor cs j → i = j
theorem lin_zero {a b c d : Pt} (hne : a ≠ b) (h1 : cr a b c = 0) (h2 : cr a b d = 0) : ∀ e, cr a b e = 0 → cr c d e = 0 := by
  intro e h3
  have k1 : (b.1 - a.1) * cr c d e = (e.1 - d.1) * cr a b c - (e.1 - c.1) * cr a b d + (d.1 - c.1) * cr a b e := by unfold cr; grind
  have k2 : (b.2 - a.2) * cr c d e = (e.2 - d.2) * cr a b c - (e.2 - c.2) * cr a b d + (d.2 - c.2) * cr a b e := by unfold cr; grind
  rw [h1, h2, h3] at k1 k2
  simp only [Int.mul_zero, Int.sub_zero, Int.add_zero] at k1 k2
  rcases Int.mul_eq_zero.1 k1 with x | x
  · rcases Int.mul_eq_zero.1 k2 with y | y
    · exact absurd (Prod.ext (by omega) (by omega)) hne
    · exact y
  · exact x
/-- Where a place on the line of an edge lies. -/
theorem al_id1 (a b p : Pt) : al a b b * (p.1 - a.1) = al a b p * (b.1 - a.1) - cr a b p * (b.2 - a.2) := by unfold al cr; grind
theorem al_id2 (a b p : Pt) : al a b b * (p.2 - a.2) = al a b p * (b.2 - a.2) + cr a b p * (b.1 - a.1) := by unfold al cr; grind
theorem al_self {a b : Pt} (h : a ≠ b) : 0 < al a b b := sq_pos h
/-- Beyond the end of an edge, on its line: right of the next edge. -/
theorem beyond_next {a b c p : Pt} (hne : a ≠ b) (h : cr a b p = 0) (hp : al a b b < al a b p) (ht : 0 < cr a b c) : cr b c p < 0 := by
  have i1 := al_id1 a b p
  have i2 := al_id2 a b p
  rw [h] at i1 i2
  have hs := al_self hne
  have e : al a b b * cr b c p = -((al a b p - al a b b) * cr a b c) := by
    have : al a b b * cr b c p = (c.1 - b.1) * (al a b b * (p.2 - a.2)) - (c.2 - b.2) * (al a b b * (p.1 - a.1)) - al a b b * ((c.1 - b.1) * (b.2 - a.2) - (c.2 - b.2) * (b.1 - a.1)) := by unfold cr; grind
    rw [this, i1, i2]
    unfold cr
    grind
  have := Int.mul_pos (show 0 < al a b p - al a b b by omega) ht
  exact (muln hs).1 (by omega)
/-- Ahead of an edge, on its line: right of the edge before. -/
theorem beyond_prev {z a b p : Pt} (hne : a ≠ b) (h : cr a b p = 0) (hp : al a b p < 0) (ht : 0 < cr z a b) : cr z a p < 0 := by
  have i1 := al_id1 a b p
  have i2 := al_id2 a b p
  rw [h] at i1 i2
  have hs := al_self hne
  have e : al a b b * cr z a p = al a b p * cr z a b := by
    have : al a b b * cr z a p = (a.1 - z.1) * (al a b b * (p.2 - a.2)) - (a.2 - z.2) * (al a b b * (p.1 - a.1)) := by unfold cr; grind
    rw [this, i1, i2]
    unfold cr
    grind
  have := Int.mul_neg_of_neg_of_pos hp ht
  exact (muln hs).1 (by omega)
theorem on_of_al {a b p : Pt} (h : cr a b p = 0) (h1 : 0 ≤ al a b p) (h2 : al a b p ≤ al a b b) (hne : a ≠ b) : onB p a b = true := al_on h h1 h2 hne
section
variable {cs : List Pt} (h : Cvx cs)
include h
theorem Cvx.ne (i : Nat) : cor cs i ≠ cor cs (i + 1) := by
  intro e
  have := h.turn i
  rw [← e] at this
  have e2 : cr (cor cs i) (cor cs i) (cor cs (i + 2)) = 0 := by unfold cr; grind
  omega
theorem Cvx.prev (i : Nat) : ∃ m, cor cs (m + 1) = cor cs i ∧ cor cs (m + 2) = cor cs (i + 1) := by
  have hl := h.len
  refine ⟨i + cs.length - 1, ?_, ?_⟩
  · rw [show i + cs.length - 1 + 1 = i + cs.length by omega, cor_per]
  · rw [show i + cs.length - 1 + 2 = i + 1 + cs.length by omega, cor_per]
/-- A place on the left of all edges, but on none of them, is strictly on the left of all. -/
theorem Cvx.strict {q : Pt} (hq : ∀ i, 0 ≤ cr (cor cs i) (cor cs (i + 1)) q) (ho : ∀ i, onB q (cor cs i) (cor cs (i + 1)) = false) (i : Nat) : 0 < cr (cor cs i) (cor cs (i + 1)) q := by
  rcases Int.lt_or_le 0 (cr (cor cs i) (cor cs (i + 1)) q) with c | c
  · exact c
  · exfalso
    have hz : cr (cor cs i) (cor cs (i + 1)) q = 0 := by have := hq i; omega
    have hne := h.ne i
    rcases Int.lt_or_le (al (cor cs i) (cor cs (i + 1)) q) 0 with x | x
    · obtain ⟨m, m1, m2⟩ := h.prev i
      have ht := h.turn m
      rw [m1, m2] at ht
      have := beyond_prev hne hz x ht
      have g := hq m
      rw [m1] at g
      omega
    · rcases Int.lt_or_le (al (cor cs i) (cor cs (i + 1)) (cor cs (i + 1))) (al (cor cs i) (cor cs (i + 1)) q) with y | y
      · have := beyond_next hne hz y (h.turn i)
        have g := hq (i + 1)
        rw [show i + 1 + 1 = i + 2 by omega] at g
        omega
      · have := on_of_al hz x y hne
        rw [ho i] at this
        cases this
theorem Cvx.corner_off {i j : Nat} (h1 : j % cs.length ≠ i % cs.length) (h2 : j % cs.length ≠ (i + 1) % cs.length) : 0 < cr (cor cs i) (cor cs (i + 1)) (cor cs j) := by
  have hl := h.len
  rcases Int.lt_or_le 0 (cr (cor cs i) (cor cs (i + 1)) (cor cs j)) with c | c
  · exact c
  · exfalso
    have hz : cr (cor cs i) (cor cs (i + 1)) (cor cs j) = 0 := by have := h.left i j; omega
    have hne := h.ne i
    have n1 : cor cs j ≠ cor cs i := by
      intro e
      rw [cor_mod2 cs j, cor_mod2 cs i] at e
      exact h1 (h.inj _ _ (Nat.mod_lt _ (by omega)) (Nat.mod_lt _ (by omega)) e)
    have n2 : cor cs j ≠ cor cs (i + 1) := by
      intro e
      rw [cor_mod2 cs j, cor_mod2 cs (i + 1)] at e
      exact h2 (h.inj _ _ (Nat.mod_lt _ (by omega)) (Nat.mod_lt _ (by omega)) e)
    rcases Int.lt_or_le (al (cor cs i) (cor cs (i + 1)) (cor cs j)) 0 with x | x
    · obtain ⟨m, m1, m2⟩ := h.prev i
      have ht := h.turn m
      rw [m1, m2] at ht
      have := beyond_prev hne hz x ht
      have g := h.left m j
      rw [m1] at g
      omega
    · rcases Int.lt_or_le (al (cor cs i) (cor cs (i + 1)) (cor cs (i + 1))) (al (cor cs i) (cor cs (i + 1)) (cor cs j)) with y | y
      · have := beyond_next hne hz y (h.turn i)
        have g := h.left (i + 1) j
        rw [show i + 1 + 1 = i + 2 by omega] at g
        omega
      · -- between the ends of the edge: the turn at the corner j is none
        have hs := al_self hne
        have i1 := al_id1 (cor cs i) (cor cs (i + 1)) (cor cs j)
        have i2 := al_id2 (cor cs i) (cor cs (i + 1)) (cor cs j)
        rw [hz] at i1 i2
        obtain ⟨m, m1, _⟩ := h.prev j
        have ht := h.turn m
        rw [m1] at ht
        have hx0 : 0 < al (cor cs i) (cor cs (i + 1)) (cor cs j) := by
          rcases Int.lt_or_le 0 (al (cor cs i) (cor cs (i + 1)) (cor cs j)) with z | z
          · exact z
          · exfalso
            rw [show al (cor cs i) (cor cs (i + 1)) (cor cs j) = 0 by omega] at i1 i2
            simp only [Int.zero_mul, Int.sub_zero, Int.add_zero] at i1 i2
            exact n1 (Prod.ext (by have := (mulz hs).1 i1; omega) (by have := (mulz hs).1 i2; omega))
        have hy0 : al (cor cs i) (cor cs (i + 1)) (cor cs j) < al (cor cs i) (cor cs (i + 1)) (cor cs (i + 1)) := by
          rcases Int.lt_or_le (al (cor cs i) (cor cs (i + 1)) (cor cs j)) (al (cor cs i) (cor cs (i + 1)) (cor cs (i + 1))) with z | z
          · exact z
          · exfalso
            have e : al (cor cs i) (cor cs (i + 1)) (cor cs j) = al (cor cs i) (cor cs (i + 1)) (cor cs (i + 1)) := by omega
            rw [e] at i1 i2
            simp only [Int.zero_mul, Int.sub_zero, Int.add_zero] at i1 i2
            exact n2 (Prod.ext (by have := Int.eq_of_mul_eq_mul_left (by omega) i1; omega) (by have := Int.eq_of_mul_eq_mul_left (by omega) i2; omega))
        have g1 := h.left m i
        have g2 := h.left m (i + 1)
        have g3 := h.left (m + 1) i
        have g4 := h.left (m + 1) (i + 1)
        rw [m1] at g1 g2 g3 g4
        rw [show m + 1 + 1 = m + 2 by omega] at g3 g4
        revert ht g1 g2 g3 g4 hz hx0 hy0 i1 i2 hs hne
        generalize cor cs m = z
        generalize cor cs (m + 2) = w
        generalize cor cs j = p
        generalize cor cs i = a
        generalize cor cs (i + 1) = b
        generalize al a b p = t
        generalize al a b b = s
        intro hz hne hs i1 i2 ht hx0 hy0 g1 g2 g3 g4
        simp only [Int.zero_mul, Int.sub_zero, Int.add_zero] at i1 i2
        -- the edges at p are along the edge
        have k1 : s * cr z p a = -(t * ((p.1 - z.1) * (b.2 - a.2) - (p.2 - z.2) * (b.1 - a.1))) := by
          have : s * cr z p a = -((p.1 - z.1) * (s * (p.2 - a.2)) - (p.2 - z.2) * (s * (p.1 - a.1))) := by unfold cr; grind
          rw [this, i1, i2]; grind
        have k2 : s * cr z p b = (s - t) * ((p.1 - z.1) * (b.2 - a.2) - (p.2 - z.2) * (b.1 - a.1)) := by
          have : s * cr z p b = s * ((p.1 - z.1) * (b.2 - a.2) - (p.2 - z.2) * (b.1 - a.1)) - ((p.1 - z.1) * (s * (p.2 - a.2)) - (p.2 - z.2) * (s * (p.1 - a.1))) := by unfold cr; grind
          rw [this, i1, i2]; grind
        have k3 : s * cr p w a = -(t * ((w.1 - p.1) * (b.2 - a.2) - (w.2 - p.2) * (b.1 - a.1))) := by
          have : s * cr p w a = -((w.1 - p.1) * (s * (p.2 - a.2)) - (w.2 - p.2) * (s * (p.1 - a.1))) := by unfold cr; grind
          rw [this, i1, i2]; grind
        have k4 : s * cr p w b = (s - t) * ((w.1 - p.1) * (b.2 - a.2) - (w.2 - p.2) * (b.1 - a.1)) := by
          have : s * cr p w b = s * ((w.1 - p.1) * (b.2 - a.2) - (w.2 - p.2) * (b.1 - a.1)) - ((w.1 - p.1) * (s * (p.2 - a.2)) - (w.2 - p.2) * (s * (p.1 - a.1))) := by unfold cr; grind
          rw [this, i1, i2]; grind
        have q1 := nn_mul (Int.le_of_lt hs) g1
        have q2 := nn_mul (Int.le_of_lt hs) g2
        have q3 := nn_mul (Int.le_of_lt hs) g3
        have q4 := nn_mul (Int.le_of_lt hs) g4
        have pz : ∀ X : Int, 0 ≤ -(t * X) → 0 ≤ (s - t) * X → X = 0 := by
          intro X h1 h2
          rcases Int.lt_trichotomy X 0 with x | x | x
          · have := Int.mul_neg_of_pos_of_neg (show 0 < s - t by omega) x
            omega
          · exact x
          · have := Int.mul_pos hx0 x
            omega
        have X1 := pz _ (by rw [← k1]; exact q1) (by rw [← k2]; exact q2)
        have X2 := pz _ (by rw [← k3]; exact q3) (by rw [← k4]; exact q4)
        have j1 : cr z p w * (b.1 - a.1) = (p.1 - z.1) * ((w.2 - p.2) * (b.1 - a.1)) - (p.2 - z.2) * (b.1 - a.1) * (w.1 - p.1) := by unfold cr; grind
        have j2 : cr z p w * (b.2 - a.2) = (p.1 - z.1) * (b.2 - a.2) * (w.2 - p.2) - (p.2 - z.2) * ((w.1 - p.1) * (b.2 - a.2)) := by unfold cr; grind
        rw [show (w.2 - p.2) * (b.1 - a.1) = (w.1 - p.1) * (b.2 - a.2) by omega, show (p.2 - z.2) * (b.1 - a.1) = (p.1 - z.1) * (b.2 - a.2) by omega] at j1
        rw [show (w.1 - p.1) * (b.2 - a.2) = (w.2 - p.2) * (b.1 - a.1) by omega, show (p.1 - z.1) * (b.2 - a.2) = (p.2 - z.2) * (b.1 - a.1) by omega] at j2
        have z1 : cr z p w * (b.1 - a.1) = 0 := by rw [j1]; grind
        have z2 : cr z p w * (b.2 - a.2) = 0 := by rw [j2]; grind
        rcases Int.mul_eq_zero.1 z1 with e | e
        · omega
        · rcases Int.mul_eq_zero.1 z2 with e2 | e2
          · omega
          · exact absurd (Prod.ext (by omega) (by omega)) hne
theorem Cvx.simple : simpleOf cs = true := by
  have hl := h.len
  unfold simpleOf
  rw [List.all_eq_true]
  intro i hi
  rw [List.mem_range] at hi
  unfold rowOk
  rw [List.all_eq_true]
  intro k hk
  rw [List.mem_range] at hk
  unfold pairOk
  by_cases c1 : k ≤ i + 1
  · simp [c1]
  · by_cases c2 : i = 0 ∧ k + 1 = cs.length
    · simp [c2]
    · have m1 : i % cs.length = i := Nat.mod_eq_of_lt hi
      have m2 : (i + 1) % cs.length = i + 1 := Nat.mod_eq_of_lt (by omega)
      have m3 : k % cs.length = k := Nat.mod_eq_of_lt hk
      have a1 := h.corner_off (i := i) (j := k) (by omega) (by omega)
      have a2 := h.corner_off (i := i) (j := k + 1) (by
        by_cases e : k + 1 = cs.length
        · rw [e, Nat.mod_self]
          omega
        · rw [Nat.mod_eq_of_lt (by omega)]
          omega) (by
        by_cases e : k + 1 = cs.length
        · rw [e, Nat.mod_self]
          omega
        · rw [Nat.mod_eq_of_lt (by omega)]
          omega)
      rw [(Sep.left a1 a2).nomeet]
      simp
theorem Cvx.twice : 0 < twiceOf cs := by
  have hl := h.len
  rw [twice_N]
  have e : sumN (fun i => crs2 (cor cs i) (cor cs (i + 1))) cs.length = sumN (fun i => cr (cor cs 0) (cor cs i) (cor cs (i + 1))) cs.length := by
    have t := sumN_tel (fun i => crs2 (cor cs 0) (cor cs i)) cs.length
    rw [cor_len, Int.sub_self] at t
    rw [← Int.add_zero (sumN (fun i => cr (cor cs 0) (cor cs i) (cor cs (i + 1))) cs.length), ← t, ← sumN_add]
    refine sumN_congr _ fun i _ => ?_
    show crs2 _ _ = cr _ _ _ + (crs2 _ _ - crs2 _ _)
    unfold crs2 cr
    grind
  rw [e]
  have pos : ∀ n, 2 ≤ n → n ≤ cs.length → 0 < sumN (fun i => cr (cor cs 0) (cor cs i) (cor cs (i + 1))) n := by
    intro n
    induction n with
    | zero => intro a; omega
    | succ n ih =>
      intro a b
      have g := h.left n 0
      rw [← cr_cyc] at g
      rw [← cr_cyc] at g
      have e1 : cr (cor cs 0) (cor cs n) (cor cs (n + 1)) = cr (cor cs n) (cor cs (n + 1)) (cor cs 0) := by unfold cr; grind
      have g0 := h.left n 0
      unfold sumN
      by_cases c : n = 1
      · subst c
        have t := h.turn 0
        have z : cr (cor cs 0) (cor cs 0) (cor cs 1) = 0 := by unfold cr; grind
        unfold sumN sumN
        show 0 < 0 + cr (cor cs 0) (cor cs 0) (cor cs (0 + 1)) + cr (cor cs 0) (cor cs 1) (cor cs (1 + 1))
        rw [show 0 + 1 = 1 by omega, show 1 + 1 = 2 by omega, z]
        have : cr (cor cs 0) (cor cs (0 + 1)) (cor cs (0 + 2)) = cr (cor cs 0) (cor cs 1) (cor cs 2) := rfl
        omega
      · have := ih (by omega) (by omega)
        omega
  exact pos cs.length (by omega) (Nat.le_refl _)
/-- It is a polygon, if it begins at its least corner. -/
theorem Cvx.valid (h24 : cs.length ≤ 24) (hok : cs.all Pt.ok = true) (h0 : ∀ i, 0 < i → i < cs.length → ltP (cor cs 0) (cor cs i)) : PValid cs = true := by
  have hl := h.len
  unfold PValid
  rw [hok, h.simple, decide_eq_true h.twice, decide_eq_true (show 3 ≤ cs.length ∧ cs.length ≤ 24 from ⟨hl, h24⟩)]
  simp only [Bool.and_self, Bool.true_and, Bool.and_true]
  rw [List.all_eq_true]
  intro i hi
  rw [List.mem_range] at hi
  unfold vertOk
  have t := h.turn (i + cs.length - 1)
  rw [show i + cs.length - 1 + 1 = i + cs.length by omega, show i + cs.length - 1 + 2 = i + 1 + cs.length by omega, cor_per, cor_per] at t
  have ht : (tn (cor cs (i + cs.length - 1)) (cor cs i) (cor cs (i + 1)) == 0) = false := by
    have := sg_pos.2 t
    unfold tn
    simp
    omega
  rw [ht, Bool.or_false]
  by_cases c : 0 < i
  · have := ord_neg (h0 i c hi)
    simp [this]
  · simp [c]
end
end Go.Proofs.Ytdmlnmcaihodaaa
namespace Go.Proofs.Ytdmlnmcaihodaaa
set_option linter.unusedVariables false
set_option linter.unusedSimpArgs false

theorem meet_of {a b c d z : Pt} (h1 : onB z a b = true) (h2 : onB z c d = true) : meetB a b c d = true := by
  cases h : meetB a b c d
  · exfalso
    obtain ⟨α, β, γ, x1, x2, x3, x4⟩ := sep_of h
    have := ev_on_neg h1 x1 x2
    have := ev_on_pos h2 x3 x4
    omega
  · rfl
theorem cr_sc2 (d : Int) (a b p : Pt) : cr (sc d a) (sc d b) (sc d p) = d * d * cr a b p := cr_sc d a b p
theorem Cvx.scaled {cs : List Pt} (h : Cvx cs) {d : Int} (hd : 0 < d) : Cvx (cs.map (sc d)) := by
  refine ⟨by rw [List.length_map]; exact h.len, fun i j => ?_, fun i => ?_, fun i j => ?_⟩
  · rw [cor_sc, cor_sc, cor_sc, cr_sc]
    exact nn_mul (Int.le_of_lt (dd_pos hd)) (h.left i j)
  · rw [cor_sc, cor_sc, cor_sc, cr_sc]
    exact Int.mul_pos (dd_pos hd) (h.turn i)
  · rw [List.length_map, cor_sc, cor_sc]
    intro hi hj e
    refine h.inj i j hi hj ?_
    have e1 := congrArg Prod.fst e
    have e2 := congrArg Prod.snd e
    unfold sc at e1 e2
    exact Prod.ext (Int.eq_of_mul_eq_mul_left (by omega) e1) (Int.eq_of_mul_eq_mul_left (by omega) e2)
theorem clear_wn {ps : List Pt} {a b : Pt} (h : ∀ i, meetB a b (cor ps i) (cor ps (i + 1)) = false) : wn ps a = wn ps b := wn_const fun i _ => h i
/-- A place on the left of all edges is a place of the polygon. -/
theorem Cvx.has {cs : List Pt} (h : Cvx cs) (hp : Poly cs) {q : Pt} (hq : ∀ i, 0 ≤ cr (cor cs i) (cor cs (i + 1)) q) : 0 ≤ placeOf cs q := by
  have hl := h.len
  rw [place_wn hp.toSimp]
  cases ho : onAny cs q
  · rw [if_neg (by simp)]
    have off := (onAny_off (by omega)).1 ho
    have st := h.strict hq off
    -- a place inside, near the middle of an edge
    have hz := mid_ins (h.ne 0)
    have hsq := al_self (h.ne 0)
    have hf : 0 < xr (sc 2 (cor cs 0)) (sc 2 (cor cs 1)) (-((cor cs 1).2 - (cor cs 0).2), (cor cs 1).1 - (cor cs 0).1) := by
      have : xr (sc 2 (cor cs 0)) (sc 2 (cor cs 1)) (-((cor cs 1).2 - (cor cs 0).2), (cor cs 1).1 - (cor cs 0).1) = 2 * al (cor cs 0) (cor cs 1) (cor cs 1) := by unfold xr al sc; grind
      have e : al (cor cs 0) (cor cs (0 + 1)) (cor cs (0 + 1)) = al (cor cs 0) (cor cs 1) (cor cs 1) := rfl
      omega
    have h1 := z_in (hp.sc (d := 2) (by omega)) 0 (z := md (cor cs 0) (cor cs 1)) (f := (-((cor cs 1).2 - (cor cs 0).2), (cor cs 1).1 - (cor cs 0).1)) (by rw [cor_sc, cor_sc]; exact hz) (by rw [cor_sc, cor_sc]; exact hf)
    -- it is on the left of all edges
    have h2 : Ev fun N => ∀ i, i < cs.length → 0 < cr (sc N (sc 2 (cor cs i))) (sc N (sc 2 (cor cs (i + 1)))) (nr N (md (cor cs 0) (cor cs 1)) (-((cor cs 1).2 - (cor cs 0).2), (cor cs 1).1 - (cor cs 0).1)) := by
      refine Ev.all _ fun i hi => ?_
      by_cases c : i = 0
      · subst c
        refine (Ev.ge 1).mono fun N hN => ?_
        have := cr_mid N (cor cs 0) (cor cs 1) (-((cor cs 1).2 - (cor cs 0).2), (cor cs 1).1 - (cor cs 0).1)
        rw [show 0 + 1 = 1 by omega, this]
        refine Int.mul_pos (by omega) ?_
        have e : xr (cor cs 0) (cor cs 1) (-((cor cs 1).2 - (cor cs 0).2), (cor cs 1).1 - (cor cs 0).1) = al (cor cs 0) (cor cs 1) (cor cs 1) := by unfold xr al; grind
        rw [e]
        exact hsq
      · have g1 := h.left i 0
        have g2 := h.left i 1
        have g3 : 0 < cr (cor cs i) (cor cs (i + 1)) (cor cs 0) + cr (cor cs i) (cor cs (i + 1)) (cor cs 1) := by
          have m0 : 0 % cs.length = 0 := Nat.zero_mod _
          have m1 : 1 % cs.length = 1 := Nat.mod_eq_of_lt (by omega)
          have mi : i % cs.length = i := Nat.mod_eq_of_lt hi
          by_cases e : (i + 1) % cs.length = 0
          · by_cases e1 : i = 1
            · subst e1
              rw [Nat.mod_eq_of_lt (by omega)] at e
              omega
            · have := h.corner_off (i := i) (j := 1) (by omega) (by omega)
              omega
          · have := h.corner_off (i := i) (j := 0) (by omega) (by omega)
            omega
        refine Ev.quad' (A := 2 * (cr (cor cs i) (cor cs (i + 1)) (cor cs 0) + cr (cor cs i) (cor cs (i + 1)) (cor cs 1))) (B := 2 * xr (cor cs i) (cor cs (i + 1)) (-((cor cs 1).2 - (cor cs 0).2), (cor cs 1).1 - (cor cs 0).1)) (C := 0) (by omega) fun N => ?_
        unfold cr sc nr md xr
        grind
    obtain ⟨N, hN⟩ := (h1.and h2).and (Ev.ge 1)
    obtain ⟨⟨⟨_, w1⟩, l1⟩, hN1⟩ := hN N (Int.le_refl _)
    rw [map_sc] at w1
    have hM : 0 < N * 2 := by omega
    have : wn (cs.map (sc (N * 2))) (sc (N * 2) q) = wn (cs.map (sc (N * 2))) (nr N (md (cor cs 0) (cor cs 1)) (-((cor cs 1).2 - (cor cs 0).2), (cor cs 1).1 - (cor cs 0).1)) := by
      refine wn_const fun i hi => ?_
      rw [List.length_map] at hi
      have a2 := l1 i hi
      rw [sc_sc, sc_sc] at a2
      rw [cor_sc, cor_sc, meetB_comm]
      refine (Sep.left ?_ a2).nomeet
      rw [cr_sc]
      exact Int.mul_pos (dd_pos hM) (st i)
    rw [wn_sc hM, w1] at this
    rw [this]
    simp
  · simp
/-- A place of the polygon is on the left of all edges. -/
theorem Cvx.of_place {cs : List Pt} (h : Cvx cs) (hp : Simp cs) {q : Pt} (hq : 0 ≤ placeOf cs q) (i : Nat) : 0 ≤ cr (cor cs i) (cor cs (i + 1)) q := by
  have hl := h.len
  rcases Int.lt_or_le (cr (cor cs i) (cor cs (i + 1)) q) 0 with c | c
  · exfalso
    generalize hu : cor cs i = u at *
    generalize hv : cor cs (i + 1) = v at *
    have hev : ∀ p : Pt, ev (2 * (v.2 - u.2)) (-(2 * (v.1 - u.1))) (2 * ((v.1 - u.1) * u.2 - (v.2 - u.2) * u.1) - 1) p = -(2 * cr u v p) - 1 := by intro p; unfold ev cr; grind
    have hc : ∀ j, ev (2 * (v.2 - u.2)) (-(2 * (v.1 - u.1))) (2 * ((v.1 - u.1) * u.2 - (v.2 - u.2) * u.1) - 1) (cor cs j) < 0 := by
      intro j
      have := h.left i j
      rw [hu, hv] at this
      rw [hev]
      omega
    have hqp : 0 < ev (2 * (v.2 - u.2)) (-(2 * (v.1 - u.1))) (2 * ((v.1 - u.1) * u.2 - (v.2 - u.2) * u.1) - 1) q := by
      rw [hev]
      omega
    have off : offB cs q := by
      intro j
      cases ho : onB q (cor cs j) (cor cs (j + 1))
      · rfl
      · have := ev_on_neg ho (hc j) (hc (j + 1))
        omega
    have w0 : wn cs q = 0 := by
      unfold wn
      have : ∀ j, cw q (cor cs j) (cor cs (j + 1)) = (fun j => -gp q (decide (2 * (v.2 - u.2) < 0)) (cor cs j)) (j + 1) - (fun j => -gp q (decide (2 * (v.2 - u.2) < 0)) (cor cs j)) j := by
        intro j
        rw [cw_sep (hc j) (hc (j + 1)) hqp]
        dsimp only
        omega
      rw [sumN_congr cs.length fun j _ => this j, sumN_tel (fun j => -gp q (decide (2 * (v.2 - u.2) < 0)) (cor cs j)), cor_len]
      omega
    rw [place_out hp off w0] at hq
    omega
  · exact c
/-- It has all of a segment whose ends it has. -/
theorem Cvx.seg_in {cs : List Pt} (h : Cvx cs) (hp : Poly cs) {a b : Pt} (ha : 0 ≤ placeOf cs a) (hb : 0 ≤ placeOf cs b) : segIn cs a b := by
  intro d hd z hz
  refine (h.scaled hd).has (hp.sc hd) fun i => ?_
  have g1 := h.of_place hp.toSimp ha i
  have g2 := h.of_place hp.toSimp hb i
  rw [cor_sc, cor_sc]
  obtain ⟨k, m, k1, k2, k3, e1, e2⟩ := on_part hz
  have e : m * cr (sc d (cor cs i)) (sc d (cor cs (i + 1))) z = (m - k) * (d * d * cr (cor cs i) (cor cs (i + 1)) a) + k * (d * d * cr (cor cs i) (cor cs (i + 1)) b) := by
    rw [← cr_sc, ← cr_sc]
    have : m * cr (sc d (cor cs i)) (sc d (cor cs (i + 1))) z = m * cr (sc d (cor cs i)) (sc d (cor cs (i + 1))) (sc d a) + (((sc d (cor cs (i + 1))).1 - (sc d (cor cs i)).1) * (m * (z.2 - (sc d a).2)) - ((sc d (cor cs (i + 1))).2 - (sc d (cor cs i)).2) * (m * (z.1 - (sc d a).1))) := by unfold cr; grind
    rw [this, e1, e2]
    unfold cr
    grind
  have d2 := Int.le_of_lt (dd_pos hd)
  have q1 := nn_mul (show 0 ≤ m - k by omega) (nn_mul d2 g1)
  have q2 := nn_mul k1 (nn_mul d2 g2)
  rcases Int.lt_or_le (cr (sc d (cor cs i)) (sc d (cor cs (i + 1))) z) 0 with c | c
  · have := (muln k3).2 c
    omega
  · exact c
end Go.Proofs.Ytdmlnmcaihodaaa
