/- Twice the area: by a way's sum; where it begins does not matter; without one corner. -/
import Derived.Test.YtdmlnmcaihodaaaPod
namespace Go.Proofs.Ytdmlnmcaihodaaa
set_option linter.unusedVariables false
set_option linter.unusedSimpArgs false

/-- The sum along a way. -/
def wayS : List Pt → Int
  | [] => 0
  | [_] => 0
  | a :: b :: l => crs2 a b + wayS (b :: l)
theorem wayS_app : ∀ (l : List Pt) (b : Pt) (m : List Pt), wayS (l ++ b :: m) = wayS (l ++ [b]) + wayS (b :: m)
  | [], b, m => by simp [wayS]
  | [a], b, m => by simp [wayS]
  | a :: c :: l, b, m => by
    have ih := wayS_app (c :: l) b m
    simp only [List.cons_append] at ih ⊢
    show crs2 a c + wayS (c :: (l ++ b :: m)) = crs2 a c + wayS (c :: (l ++ [b])) + wayS (b :: m)
    rw [ih]
    omega
theorem wayS_range (l : List Pt) : ∀ (n : Nat), n + 1 ≤ l.length → wayS (l.take (n + 1)) = ((List.range n).map fun i => crs2 (l.getD i (0, 0)) (l.getD (i + 1) (0, 0))).sum
  | 0, h => by
    obtain ⟨a, m, rfl⟩ : ∃ a m, l = a :: m := by cases l with | nil => simp at h | cons a m => exact ⟨a, m, rfl⟩
    simp [wayS]
  | n + 1, h => by
    have ih := wayS_range l n (by omega)
    have h1 : l[n]? = some (l.getD n (0, 0)) := by rw [List.getD_eq_getElem?_getD, List.getElem?_eq_getElem (by omega)]; rfl
    have h2 : l[n + 1]? = some (l.getD (n + 1) (0, 0)) := by rw [List.getD_eq_getElem?_getD, List.getElem?_eq_getElem (by omega)]; rfl
    rw [List.range_succ, List.map_append, List.sum_append, ← ih, List.take_add_one, List.take_add_one, h1, h2]
    simp only [Option.toList_some, List.append_assoc, List.singleton_append, List.map_cons, List.map_nil, List.sum_cons, List.sum_nil]
    rw [wayS_app]
    simp [wayS]
theorem twice_way (a : Pt) (l : List Pt) : twiceOf (a :: l) = wayS (a :: l ++ [a]) := by
  have h := wayS_range (a :: l ++ [a]) (a :: l).length (by simp)
  rw [List.take_of_length_le (by simp)] at h
  rw [h]
  unfold twiceOf sumI
  congr 1
  apply List.map_congr_left
  intro i hi
  rw [List.mem_range] at hi
  have e : ∀ k, k ≤ (a :: l).length → (a :: l ++ [a]).getD k (0, 0) = cor (a :: l) k := by
    intro k hk
    unfold cor
    rw [List.getD_eq_getElem?_getD, List.getD_eq_getElem?_getD]
    rcases Nat.lt_or_ge k (a :: l).length with h | h
    · rw [Nat.mod_eq_of_lt h, List.getElem?_append_left h]
    · obtain rfl : k = (a :: l).length := by omega
      rw [Nat.mod_self, List.getElem?_append_right (Nat.le_refl _), Nat.sub_self]
      rfl
  rw [e i (by omega), e (i + 1) (by omega)]
theorem twice_rot (l m : List Pt) : twiceOf (l ++ m) = twiceOf (m ++ l) := by
  cases l with
  | nil => simp
  | cons a l =>
    cases m with
    | nil => simp
    | cons b m =>
      have t1 := twice_way a (l ++ b :: m)
      have t2 := twice_way b (m ++ a :: l)
      simp only [List.cons_append] at t1 t2 ⊢
      rw [t1, t2]
      have h1 := wayS_app (a :: l) b (m ++ [a])
      have h2 := wayS_app (b :: m) a (l ++ [b])
      simp only [List.cons_append, List.append_assoc] at h1 h2 ⊢
      rw [h1, h2]
      omega
/-- Without one corner. -/
theorem twice_cut (y : Pt) (x z : Pt) (l : List Pt) : twiceOf (y :: z :: (l ++ [x])) - twiceOf (z :: (l ++ [x])) = (y.1 - x.1) * (z.2 - x.2) - (y.2 - x.2) * (z.1 - x.1) := by
  rw [twice_way, twice_way]
  have h1 := wayS_app (y :: z :: l) x [y]
  have h2 := wayS_app (z :: l) x [z]
  simp only [List.cons_append, List.append_assoc, List.nil_append] at h1 h2 ⊢
  rw [h1, h2]
  simp only [wayS, crs2]
  simp only [Int.sub_mul, Int.mul_sub]
  have e1 := Int.mul_comm x.1 y.2
  have e2 := Int.mul_comm x.1 z.2
  have e3 := Int.mul_comm x.2 x.1
  have e4 := Int.mul_comm x.2 y.1
  have e5 := Int.mul_comm x.2 z.1
  omega
theorem cor_take {l : List Pt} {k : Nat} (h : k < l.length) : l[k]'h = cor l k := by
  have := cor_get h
  rw [List.getElem?_eq_getElem h] at this
  exact Option.some.inj this
/-- The law: the corner at i is left out, the others are begun anywhere. -/
theorem area_cut (ps : List Pt) (i m : Nat) (hn : 3 ≤ ps.length) (hi : i < ps.length) :
    twiceOf ps - twiceOf ((ps.eraseIdx i).drop m ++ (ps.eraseIdx i).take m) = ((cor ps i).1 - (cor ps (i + ps.length - 1)).1) * ((cor ps (i + 1)).2 - (cor ps (i + ps.length - 1)).2) - ((cor ps i).2 - (cor ps (i + ps.length - 1)).2) * ((cor ps (i + 1)).1 - (cor ps (i + ps.length - 1)).1) := by
  rw [twice_rot, List.take_append_drop, List.eraseIdx_eq_take_drop_succ, twice_rot (ps.take i)]
  have hp : twiceOf ps = twiceOf (cor ps i :: (ps.drop (i + 1) ++ ps.take i)) := by
    conv => lhs; rw [← List.take_append_drop i ps]
    rw [twice_rot, List.drop_eq_getElem_cons hi, cor_take hi]
    rfl
  rw [hp]
  obtain ⟨r, hr⟩ : ∃ r, ps.drop (i + 1) ++ ps.take i = r := ⟨_, rfl⟩
  have hrl : r.length = ps.length - 1 := by rw [← hr]; simp; omega
  have hz : r[0]? = some (cor ps (i + 1)) := by
    rw [← hr]
    rcases Nat.lt_or_ge (i + 1) ps.length with h | h
    · rw [List.getElem?_append_left (by simp; omega), List.getElem?_drop]
      exact cor_get h
    · have hii : i + 1 = ps.length := by omega
      rw [List.drop_of_length_le (by omega), List.nil_append, List.getElem?_take_of_lt (by omega), cor_get (by omega)]
      unfold cor
      rw [hii, Nat.mod_self, Nat.zero_mod]
  have hx : r[r.length - 1]? = some (cor ps (i + ps.length - 1)) := by
    rw [hrl, ← hr]
    rcases Nat.eq_zero_or_pos i with rfl | h
    · rw [List.take_zero, List.append_nil, List.getElem?_drop]
      rw [show 0 + 1 + (ps.length - 1 - 1) = ps.length - 1 by omega, cor_get (by omega)]
      simp
    · rw [List.getElem?_append_right (by simp; omega), List.getElem?_take_of_lt (by simp; omega)]
      rw [show ps.length - 1 - 1 - (ps.drop (i + 1)).length = i - 1 by simp; omega, cor_get (by omega)]
      unfold cor
      rw [show i + ps.length - 1 = (i - 1) + ps.length by omega, Nat.add_mod_right]
  rw [hr]
  obtain ⟨z, t, rfl⟩ : ∃ z t, r = z :: t := by cases r with | nil => simp at hrl; omega | cons a b => exact ⟨a, b, rfl⟩
  have ht : t ≠ [] := by intro e; rw [e] at hrl; simp at hrl; omega
  obtain ⟨l, x, rfl⟩ : ∃ l x, t = l ++ [x] := ⟨t.dropLast, t.getLast ht, (List.dropLast_concat_getLast ht).symm⟩
  simp only [List.getElem?_cons_zero, Option.some.injEq] at hz
  have hx2 : x = cor ps (i + ps.length - 1) := by
    rw [show (z :: (l ++ [x])).length - 1 = l.length + 1 by simp, List.getElem?_cons_succ, List.getElem?_append_right (Nat.le_refl _), Nat.sub_self] at hx
    exact Option.some.inj hx
  rw [← hz, ← hx2]
  exact twice_cut _ _ _ _
end Go.Proofs.Ytdmlnmcaihodaaa
