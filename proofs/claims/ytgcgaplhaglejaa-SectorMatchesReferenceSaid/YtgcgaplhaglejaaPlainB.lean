/- Plain law: the order of a light's sectors does not matter. -/
import Derived.Test.YtgcgaplhaglejaaHoldsL
namespace Go.Proofs.Ytgcgaplhaglejaa
set_option linter.unusedVariables false
set_option linter.unusedSimpArgs false
open Go.RowKit Go.Sort

theorem clash_comm (s t : Sec) : clash s t = clash t s := by unfold clash; rw [Bool.or_comm]
theorem LV_pair {ss : List Sec} : LV ss ↔ (∀ s ∈ ss, s.ok = true) ∧ ss.Pairwise (fun s t => clash s t = false) ∧ ss.length ≤ 12 := by
  unfold LV GoodTo
  constructor
  · rintro ⟨h, h12⟩
    refine ⟨fun s hs => ?_, ?_, h12⟩
    · obtain ⟨k, hk, rfl⟩ := List.getElem_of_mem hs
      exact (h k _ hk (List.getElem?_eq_getElem hk)).1
    · rw [List.pairwise_iff_getElem]
      intro i j hi hj hij
      rw [clash_comm]
      exact (h j _ hj (List.getElem?_eq_getElem hj)).2 i _ hij (List.getElem?_eq_getElem hi)
  · rintro ⟨h1, h2, h3⟩
    rw [List.pairwise_iff_getElem] at h2
    refine ⟨fun i s hi hs => ⟨h1 s (List.mem_of_getElem? hs), fun j t hj ht => ?_⟩, h3⟩
    obtain ⟨hi', rfl⟩ := List.getElem?_eq_some_iff.1 hs
    obtain ⟨hj', rfl⟩ := List.getElem?_eq_some_iff.1 ht
    rw [clash_comm]
    exact h2 j i hj' hi' hj
theorem LValid_perm {sa sb : List Sec} (h : sa.Perm sb) (ha : LValid sa = true) : LValid sb = true := by
  rw [LValid_iff, LV_pair] at *
  obtain ⟨h1, h2, h3⟩ := ha
  refine ⟨fun s hs => h1 s (h.mem_iff.2 hs), ?_, by rw [← h.length_eq]; exact h3⟩
  exact h.pairwise h2 fun {s t} hst => by rw [clash_comm]; exact hst
/-- In a valid light, who has a direction is the only one. -/
theorem only_one {ss : List Sec} (h : LValid ss = true) {v : Int × Int} (hv : NZ v) : ss.Pairwise (fun s t => ¬ (hs s v = true ∧ hs t v = true)) := by
  have hn := LV_nzs h
  obtain ⟨h1, h2, _⟩ := LV_pair.1 (LValid_iff.1 h)
  refine List.Pairwise.imp_of_mem (fun {s t} hs' ht' hst hh => ?_) h2
  have := clash_of (hn s hs').1 (hn s hs').2 (hn t ht').1 (hn t ht').2 hv hh.1 hh.2
  rw [hst] at this
  cases this
/-- What the sector that has the direction says. -/
theorem shA_at {ss : List Sec} (h : LValid ss = true) {v : Int × Int} (hv : NZ v) {k : Nat} {s : Sec} (hk : ss[k]? = some s) (hh : hs s v = true) : shA ss v = (s.col, s.rng) ∧ ∀ (j : Nat) (t : Sec), ss[j]? = some t → hs t v = true → j = k := by
  have hp := List.pairwise_iff_getElem.1 (only_one h hv)
  obtain ⟨hk', rfl⟩ := List.getElem?_eq_some_iff.1 hk
  have huniq : ∀ (j : Nat) (t : Sec), ss[j]? = some t → hs t v = true → j = k := by
    intro j t hj ht
    obtain ⟨hj', rfl⟩ := List.getElem?_eq_some_iff.1 hj
    rcases Nat.lt_trichotomy j k with h1 | h1 | h1
    · exact (hp j k hj' hk' h1 ⟨ht, hh⟩).elim
    · exact h1
    · exact (hp k j hk' hj' h1 ⟨hh, ht⟩).elim
  refine ⟨?_, huniq⟩
  rw [shA_def]
  cases hf : ss.find? (fun s => hs s v) with
  | none =>
    rw [List.find?_eq_none] at hf
    have := hf ss[k] (List.getElem_mem hk')
    rw [hh] at this
    exact (this rfl).elim
  | some t =>
    have h1 := List.find?_some hf
    obtain ⟨j, hj, rfl⟩ := List.getElem_of_mem (List.mem_of_find?_eq_some hf)
    have := huniq j _ (List.getElem?_eq_getElem hj) h1
    subst this
    rfl
theorem shA_none {ss : List Sec} {v : Int × Int} (h : ∀ s ∈ ss, hs s v = false) : shA ss v = (0, 0) := by
  rw [shA_def]
  have : ss.find? (fun s => hs s v) = none := List.find?_eq_none.2 fun s hs' => by rw [h s hs']; simp
  rw [this]
theorem shA_perm {sa sb : List Sec} (h : sa.Perm sb) (ha : LValid sa = true) {v : Int × Int} (hv : NZ v) : shA sa v = shA sb v := by
  have hb := LValid_perm h ha
  by_cases hc : ∃ s ∈ sa, hs s v = true
  · obtain ⟨s, hs', hh⟩ := hc
    obtain ⟨k, hk⟩ := List.getElem?_of_mem hs'
    obtain ⟨j, hj⟩ := List.getElem?_of_mem (h.mem_iff.1 hs')
    rw [(shA_at ha hv hk hh).1, (shA_at hb hv hj hh).1]
  · rw [shA_none fun s hs' => by cases hh : hs s v; rfl; exact (hc ⟨s, hs', hh⟩).elim, shA_none fun s hs' => by cases hh : hs s v; rfl; exact (hc ⟨s, h.mem_iff.2 hs', hh⟩).elim]
theorem turn_perm {α : Type} (l : List α) (k : Nat) : l.Perm (l.drop k ++ l.take k) := by
  have := List.perm_append_comm (l₁ := l.take k) (l₂ := l.drop k)
  rwa [List.take_append_drop] at this
end Go.Proofs.Ytgcgaplhaglejaa
