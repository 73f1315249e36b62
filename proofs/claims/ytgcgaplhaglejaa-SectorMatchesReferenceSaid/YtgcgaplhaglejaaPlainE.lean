/- Plain law: the normal form is a light that shows the same; it depends on what is shown alone; its length. -/
import Derived.Test.YtgcgaplhaglejaaPlainD
namespace Go.Proofs.Ytgcgaplhaglejaa
set_option linter.unusedVariables false
set_option linter.unusedSimpArgs false
open Go.RowKit Go.Sort Go.Lib

/-- Strictly sorted. -/
def Srt (l : List Prim) : Prop := l.Pairwise (fun u v => leP v u = false)
theorem leP_refl (u : Prim) : leP u u = true := by rcases leP_total u u with h | h <;> exact h
theorem lt_le {u v : Prim} (h : leP v u = false) : leP u v = true := by
  rcases leP_total u v with h1 | h1
  · exact h1
  · rw [h] at h1; cases h1
theorem comp_srt {l : List Prim} (h : l.Pairwise (fun u v => leP u v = true)) : Srt (compP l) ∧ ∀ x, x ∈ compP l ↔ x ∈ l := by
  have hg := List.pairwise_iff_getElem.1 h
  have hle : ∀ i j, i ≤ j → j < l.length → leP l.toArray[i]! l.toArray[j]! = true := by
    intro i j hij hj
    rw [getElem!_pos l.toArray i (by simp; omega), getElem!_pos l.toArray j (by simp; omega)]
    simp only [List.getElem_toArray]
    rcases Nat.lt_or_ge i j with h1 | h1
    · exact hg i j (by omega) hj h1
    · obtain rfl : i = j := by omega
      exact leP_refl _
  constructor
  · unfold compP compactUpTo Srt
    rw [List.pairwise_map]
    refine List.Pairwise.imp_of_mem (fun {i j} hi hj hij => ?_) (List.pairwise_lt_range.filter _)
    obtain ⟨hj1, hj2⟩ := List.mem_filter.1 hj
    have hjl := List.mem_range.1 hj1
    simp only [keeps, decide_eq_true_eq] at hj2
    have hne : l.toArray[j]! ≠ l.toArray[j - 1]! := hj2.resolve_left (by omega)
    cases hc : leP l.toArray[j]! l.toArray[i]! with
    | false => rfl
    | true => exact (hne (leP_anti (leP_trans hc (hle i (j - 1) (by omega) (by omega))) (hle (j - 1) j (by omega) hjl))).elim
  · intro x
    unfold compP compactUpTo
    constructor
    · intro hx
      obtain ⟨j, hj, rfl⟩ := List.mem_map.1 hx
      have hjl := List.mem_range.1 (List.mem_filter.1 hj).1
      rw [getElem!_pos l.toArray j (by simpa using hjl)]
      simp
    · intro hx
      obtain ⟨j, hj, rfl⟩ := List.getElem_of_mem hx
      have key : ∀ j (hj : j < l.length), ∃ i, i < l.length ∧ keeps l.toArray i = true ∧ l.toArray[i]! = l[j] := by
        intro j
        induction j with
        | zero => exact fun hj => ⟨0, hj, by simp [keeps], by rw [getElem!_pos l.toArray 0 (by simpa using hj)]; simp⟩
        | succ j ih =>
          intro hj
          have e : l.toArray[j + 1]! = l[j + 1] := by rw [getElem!_pos l.toArray (j + 1) (by simpa using hj)]; simp
          by_cases hk : keeps l.toArray (j + 1) = true
          · exact ⟨j + 1, hj, hk, e⟩
          · simp only [keeps, decide_eq_true_eq] at hk
            have h9 : l.toArray[j + 1]! = l.toArray[j]! := Decidable.byContradiction fun hne => hk (.inr hne)
            obtain ⟨i, hi, hki, hv⟩ := ih (by omega)
            refine ⟨i, hi, hki, ?_⟩
            rw [hv, ← e, h9, getElem!_pos l.toArray j (by simp; omega)]
            simp
      obtain ⟨i, hi, hk, hv⟩ := key j hj
      exact List.mem_map.2 ⟨i, List.mem_filter.2 ⟨List.mem_range.2 hi, hk⟩, hv⟩
theorem sort_srt (l : List Prim) : (sortP l).Pairwise (fun u v => leP u v = true) := by
  have := List.pairwise_mergeSort (le := leP) (fun a b c h1 h2 => leP_trans h1 h2) (fun a b => by simpa using leP_total a b) l
  exact this
theorem all_srt (ss : List Sec) : Srt (allP ss) := (comp_srt (sort_srt _)).1
theorem all_mem {ss : List Sec} {v : Prim} : v ∈ allP ss ↔ ∃ t ∈ turnsOf ss, shortP t.1 t.2 = v := by
  unfold allP
  rw [(comp_srt (sort_srt _)).2, sortP, List.mem_mergeSort, List.mem_map]
theorem all_ends {ss : List Sec} (h : LValid ss = true) : Ends ss (allP ss) := fun s hs' =>
  ⟨(LV_ok h).1 s hs', all_mem.2 ⟨_, (turns_mem hs').1, rfl⟩, all_mem.2 ⟨_, (turns_mem hs').2, rfl⟩⟩
theorem srt_ext : ∀ {a b : List Prim}, Srt a → Srt b → (∀ x, x ∈ a ↔ x ∈ b) → a = b
  | [], [], _, _, _ => rfl
  | [], y :: b, _, _, h => by have := (h y).2 (by simp); cases this
  | x :: a, [], _, _, h => by have := (h x).1 (by simp); cases this
  | x :: a, y :: b, ha, hb, h => by
    obtain ⟨ha1, ha2⟩ := List.pairwise_cons.1 ha
    obtain ⟨hb1, hb2⟩ := List.pairwise_cons.1 hb
    have hxy : x = y := by
      rcases List.mem_cons.1 ((h x).1 (by simp)) with h1 | h1
      · exact h1
      · rcases List.mem_cons.1 ((h y).2 (by simp)) with h2 | h2
        · exact h2.symm
        · have e1 := hb1 x h1
          have e2 := lt_le (ha1 y h2)
          rw [e1] at e2
          cases e2
    subst hxy
    have hxa : x ∉ a := fun hx => by have := ha1 x hx; rw [leP_refl] at this; cases this
    have hxb : x ∉ b := fun hx => by have := hb1 x hx; rw [leP_refl] at this; cases this
    rw [srt_ext ha2 hb2 fun z => ?_]
    constructor
    · intro hz
      rcases List.mem_cons.1 ((h z).1 (by simp [hz])) with h1 | h1
      · subst h1; exact (hxa hz).elim
      · exact h1
    · intro hz
      rcases List.mem_cons.1 ((h z).2 (by simp [hz])) with h1 | h1
      · subst h1; exact (hxb hz).elim
      · exact h1
theorem srt_nodup {a : List Prim} (h : Srt a) : a.Nodup := List.Pairwise.imp (fun {u v} hl e => by subst e; rw [leP_refl] at hl; cases hl) h
theorem kept_mem {g : Prim → Int × Int} {v : Prim} : ∀ {l : List Prim} {last : Int × Int}, v ∈ keptOf g last l ↔ ∃ l1 l2, l = l1 ++ v :: l2 ∧ g v ≠ lastOf g last l1
  | [], last => by simp [keptOf]
  | u :: l, last => by
    have ih := kept_mem (g := g) (v := v) (l := l) (last := g u)
    unfold keptOf
    constructor
    · intro h
      by_cases hu : g u = last
      · rw [if_pos hu] at h
        obtain ⟨l1, l2, rfl, h2⟩ := ih.1 h
        exact ⟨u :: l1, l2, rfl, h2⟩
      · rw [if_neg hu] at h
        rcases List.mem_cons.1 h with h | h
        · subst h
          exact ⟨[], l, rfl, hu⟩
        · obtain ⟨l1, l2, rfl, h2⟩ := ih.1 h
          exact ⟨u :: l1, l2, rfl, h2⟩
    · rintro ⟨l1, l2, he, h2⟩
      cases l1 with
      | nil =>
        injection he with h1 h3
        subst h1
        have h2' : ¬ g u = last := h2
        rw [if_neg h2']
        simp
      | cons w l1 =>
        injection he with h1 h3
        subst h1
        have := ih.2 ⟨l1, l2, h3, h2⟩
        split
        · exact this
        · simp [this]
theorem kept_sub (g : Prim → Int × Int) : ∀ (l : List Prim) (last : Int × Int), (keptOf g last l).Sublist l
  | [], _ => List.Sublist.refl _
  | v :: l, last => by
    unfold keptOf
    split
    · exact (kept_sub g l _).cons v
    · exact (kept_sub g l _).cons_cons v
theorem kept_nil {g : Prim → Int × Int} : ∀ {l : List Prim} {last : Int × Int}, keptOf g last l = [] → ∀ v ∈ l, g v = last
  | [], _, _, v, hv => by cases hv
  | u :: l, last, h, v, hv => by
    unfold keptOf at h
    by_cases hu : g u = last
    · rw [if_pos hu] at h
      rcases List.mem_cons.1 hv with h1 | h1
      · rw [h1]; exact hu
      · rw [kept_nil h v h1, hu]
    · rw [if_neg hu] at h
      cases h
theorem sp_of {A : List Prim} {q v : Prim} (hq : q ∈ A) (hne : q ≠ v) (h : ∀ e ∈ A, e ≠ v → (leP q v = true → (leP e q = true ∨ leP e v = false)) ∧ (leP q v = false → leP e q = true ∧ leP e v = false)) : SP A q v :=
  ⟨hne, List.mem_filter.2 ⟨hq, by simpa using hne⟩, fun e he => by
    obtain ⟨h1, h2⟩ := List.mem_filter.1 he
    exact h e h1 (by simpa using h2)⟩
theorem sp_split {A l1 l2 : List Prim} {v y : Prim} (hS : Srt A) (hA : A = l1 ++ v :: l2) (hy : A[A.length - 1]? = some y) (g : Prim → Int × Int) :
    A = [v] ∨ ∃ q, SP A q v ∧ lastOf g (g y) l1 = g q := by
  subst hA
  obtain ⟨p1, p2, p3⟩ := List.pairwise_append.1 hS
  obtain ⟨p4, p5⟩ := List.pairwise_cons.1 p2
  rcases List.eq_nil_or_concat l1 with h | ⟨l, q, h⟩
  · subst h
    rcases List.eq_nil_or_concat l2 with h | ⟨l, z, h⟩
    · subst h; exact .inl rfl
    · rw [List.concat_eq_append] at h
      subst h
      obtain rfl : y = z := by
        have e : ([] ++ v :: (l ++ [z])).length - 1 = l.length + 1 := by simp
        rw [e] at hy
        simp at hy
        exact hy.symm
      refine .inr ⟨y, ?_, rfl⟩
      have hvy : leP y v = false := p4 y (by simp)
      obtain ⟨p6, _, p7⟩ := List.pairwise_append.1 p5
      refine sp_of (by simp) (fun e => by subst e; rw [leP_refl] at hvy; cases hvy) fun e he hev => ⟨fun h => (by rw [hvy] at h; cases h), fun _ => ?_⟩
      have he' : e ∈ l ++ [y] := by
        simp only [List.nil_append, List.mem_cons] at he
        exact he.resolve_left hev
      refine ⟨?_, p4 e he'⟩
      rcases List.mem_append.1 he' with h1 | h1
      · exact lt_le (p7 e h1 y (by simp))
      · rw [List.mem_singleton.1 h1]; exact leP_refl _
  · rw [List.concat_eq_append] at h
    subst h
    refine .inr ⟨q, ?_, lastOf_snoc g q l _⟩
    have hqv : leP v q = false := p3 q (by simp) v (by simp)
    obtain ⟨_, _, p7⟩ := List.pairwise_append.1 p1
    refine sp_of (by simp) (fun e => by subst e; rw [leP_refl] at hqv; cases hqv) fun e he hev => ⟨fun _ => ?_, fun h => (by rw [lt_le hqv] at h; cases h)⟩
    rcases List.mem_append.1 he with h1 | h1
    · rcases List.mem_append.1 h1 with h2 | h2
      · exact .inl (lt_le (p7 e h2 q (by simp)))
      · rw [List.mem_singleton.1 h2]; exact .inl (leP_refl _)
    · rcases List.mem_cons.1 h1 with h2 | h2
      · exact (hev h2).elim
      · exact .inr (p4 e h2)
/-- What is kept are the changes. -/
theorem kept_chg {ss : List Sec} {A : List Prim} (hE : Ends ss A) (hS : Srt A) {y : Prim} (hy : A[A.length - 1]? = some y) (v : Prim) : v ∈ keptOf (shP ss) (shP ss y) A ↔ Chg (shP ss) v := by
  rw [kept_mem]
  constructor
  · rintro ⟨l1, l2, hA, hne⟩
    rcases sp_split hS hA hy (shP ss) with h | ⟨q, hq, e⟩
    · exfalso
      have hl : l1 = [] := by
        rw [h] at hA
        cases l1 with
        | nil => rfl
        | cons a l =>
          injection hA with _ h2
          have := congrArg List.length h2
          simp at this
      subst hl
      rw [h] at hy
      simp at hy
      subst hy
      exact hne rfl
    · rw [e] at hne
      exact (chg_iff hE hq).2 fun h => hne h.symm
  · intro hc
    obtain ⟨l1, l2, hA⟩ := List.append_of_mem (chg_mem hE hc)
    refine ⟨l1, l2, hA, ?_⟩
    rcases sp_split hS hA hy (shP ss) with h | ⟨q, hq, e⟩
    · exact (chg_not hE (by rw [h]; simp) hc).elim
    · rw [e]
      exact fun h => (chg_iff hE hq).1 hc h.symm
theorem last_ex {A : List Prim} (h : A ≠ []) : ∃ y, A[A.length - 1]? = some y ∧ y ∈ A := by
  have hl : A.length - 1 < A.length := by have := List.length_pos_iff.2 h; omega
  exact ⟨_, List.getElem?_eq_getElem hl, List.getElem_mem hl⟩
theorem all_ne {ss : List Sec} (h : ss ≠ []) : allP ss ≠ [] := by
  obtain ⟨s, hs'⟩ := List.exists_mem_of_ne_nil _ h
  exact List.ne_nil_of_mem (all_mem.2 ⟨_, (turns_mem hs').1, rfl⟩)
/-- The parts of a normal form. -/
theorem norm_parts {ss : List Sec} (h : LValid ss = true) (hne : ss ≠ []) : ∃ (y : Prim) (K : List Prim), Srt K ∧ (∀ v, v ∈ K ↔ Chg (shP ss) v) ∧ (K = [] → ∀ v, shP ss v = shP ss y) ∧ normList ss = if K = [] then [⟨1, 0, 1, 0, (shP ss y).1, (shP ss y).2⟩] else outOf (shP ss) K K.length := by
  obtain ⟨y, hy, hyA⟩ := last_ex (all_ne hne)
  refine ⟨y, keptOf (shP ss) (shP ss y) (allP ss), (all_srt ss).sublist (kept_sub _ _ _), kept_chg (all_ends h) (all_srt ss) hy, ?_, normList_eq hne rfl hy rfl⟩
  intro hK v
  obtain ⟨q, hq⟩ := wp_ex (all_ne hne) v
  rw [wp_const (all_ends h) hq, kept_nil hK q hq.1]
theorem lit_ss {ss : List Sec} (h : LValid ss = true) (hne : ss ≠ []) : ∃ v : Prim, shP ss v ≠ (0, 0) := by
  obtain ⟨s, hs'⟩ := List.exists_mem_of_ne_nil _ hne
  obtain ⟨k, hk⟩ := List.getElem?_of_mem hs'
  have hok := (LV_ok h).1 s hs'
  refine ⟨shortP s.fx s.fy, ?_⟩
  have hh : hs s (shortP s.fx s.fy).1 = true := by rw [hs_short hok]; exact arc_self
  rw [shP_shA, (shA_at h (pr_nz _) hk hh).1]
  simp [Sec.ok, secOk] at hok
  intro e
  injection e with e1 e2
  omega
/-- The normal form depends on what is shown alone. -/
theorem norm_ext {a b : List Sec} (ha : LValid a = true) (hb : LValid b = true) (h : ∀ v, shP a v = shP b v) : normList a = normList b := by
  have hfun : shP a = shP b := funext h
  rcases Decidable.em (a = []) with h1 | h1
  · rcases Decidable.em (b = []) with h2 | h2
    · rw [h1, h2]
    · obtain ⟨v, hv⟩ := lit_ss hb h2
      rw [← h v, h1] at hv
      exact (hv rfl).elim
  · rcases Decidable.em (b = []) with h2 | h2
    · obtain ⟨v, hv⟩ := lit_ss ha h1
      rw [h v, h2] at hv
      exact (hv rfl).elim
    · obtain ⟨y, K, s1, m1, c1, e1⟩ := norm_parts ha h1
      obtain ⟨z, L, s2, m2, c2, e2⟩ := norm_parts hb h2
      have hKL : K = L := srt_ext s1 s2 fun x => by rw [m1, m2, hfun]
      subst hKL
      rw [e1, e2, hfun]
      split
      · rename_i hK
        rw [← hfun, c1 hK z, hfun]
      · rfl
end Go.Proofs.Ytgcgaplhaglejaa
