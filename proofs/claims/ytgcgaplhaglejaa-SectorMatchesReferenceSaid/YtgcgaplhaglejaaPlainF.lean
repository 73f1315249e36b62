/- Plain law: the normal form shows the same, is valid, and no longer; and a quarter turn of it. -/
import Derived.Test.YtgcgaplhaglejaaPlainE
namespace Go.Proofs.Ytgcgaplhaglejaa
set_option linter.unusedVariables false
set_option linter.unusedSimpArgs false
open Go.RowKit Go.Sort Go.Lib

theorem bang_of {K : List Prim} {i : Nat} (h : i < K.length) : K[i]! = K[i] := getElem!_pos K i h
theorem bang_mem {K : List Prim} {i : Nat} (h : i < K.length) : K[i]! ∈ K := by rw [bang_of h]; exact List.getElem_mem h
theorem srt_get {K : List Prim} (hS : Srt K) {i j : Nat} (hij : i < j) (hj : j < K.length) : leP K[j]! K[i]! = false := by
  rw [bang_of hj, bang_of (by omega)]
  exact List.pairwise_iff_getElem.1 hS i j (by omega) hj hij
theorem srt_le {K : List Prim} (hS : Srt K) {i j : Nat} (hij : i ≤ j) (hj : j < K.length) : leP K[i]! K[j]! = true := by
  rcases Nat.lt_or_ge i j with h | h
  · exact lt_le (srt_get hS h hj)
  · obtain rfl : i = j := by omega
    exact leP_refl _
/-- A sector of the normal form has the directions whose last change is its first direction. -/
theorem arc_next {K : List Prim} (hS : Srt K) {j : Nat} (hj : j < K.length) (v : Prim) : arc K[j]! K[(j + 1) % K.length]! v = true ↔ WP K K[j]! v := by
  have hn : (j + 1) % K.length < K.length := Nat.mod_lt _ (by omega)
  have hL : ∀ a ∈ K, a ∈ v :: K := fun a ha => by simp [ha]
  have hv : v ∈ v :: K := by simp
  have h1 := hL _ (bang_mem hj)
  have h2 := hL _ (bang_mem hn)
  rw [arc_R h1 h2 hv]
  have hall : ∀ e ∈ K, ((j + 1 < K.length ∧ R (v :: K) K[j]! < R (v :: K) K[(j + 1) % K.length]! ∧ (R (v :: K) e ≤ R (v :: K) K[j]! ∨ R (v :: K) K[(j + 1) % K.length]! ≤ R (v :: K) e)) ∨
      (j + 1 = K.length ∧ R (v :: K) K[(j + 1) % K.length]! ≤ R (v :: K) e ∧ R (v :: K) e ≤ R (v :: K) K[j]!)) := by
    intro e he
    obtain ⟨i, hi, rfl⟩ := List.getElem_of_mem he
    rw [← bang_of hi]
    have hI := hL _ (bang_mem hi)
    rcases Nat.lt_or_ge (j + 1) K.length with hlt | hge
    · have em : (j + 1) % K.length = j + 1 := Nat.mod_eq_of_lt hlt
      rw [em] at h2 ⊢
      refine .inl ⟨hlt, (R_nle h2 h1).1 (srt_get hS (by omega) hlt), ?_⟩
      rcases Nat.lt_or_ge j i with h3 | h3
      · exact .inr ((R_le h2 hI).1 (srt_le hS (by omega) hi))
      · exact .inl ((R_le hI h1).1 (srt_le hS h3 hj))
    · have em : (j + 1) % K.length = 0 := by rw [show j + 1 = K.length by omega]; exact Nat.mod_self _
      rw [em] at h2 ⊢
      exact .inr ⟨by omega, (R_le h2 hI).1 (srt_le hS (by omega) hi), (R_le hI h1).1 (srt_le hS (by omega) hj)⟩
  constructor
  · intro h
    refine ⟨bang_mem hj, fun e he => ?_⟩
    have h3 := hall e he
    rw [R_le h1 hv, R_nle h1 hv, R_le (hL e he) h1, R_nle (hL e he) hv]
    omega
  · intro h
    have h3 := h.2 _ (bang_mem hn)
    have h4 := hall _ (bang_mem hn)
    rw [R_le h1 hv, R_nle h1 hv, R_le h2 h1, R_nle h2 hv] at h3
    omega
theorem wp_self {K : List Prim} {k : Prim} (hk : k ∈ K) : WP K k k := ⟨hk, fun e _ => ⟨fun _ => (by cases h : leP e k; exact .inr rfl; exact .inl rfl), fun h => (by rw [leP_refl] at h; cases h)⟩⟩
theorem out_mem {g : Prim → Int × Int} {K : List Prim} {s : Sec} : ∀ {n : Nat}, s ∈ outOf g K n ↔ ∃ i, i < n ∧ s ∈ outAt g K i
  | 0 => by simp [outOf]
  | n + 1 => by
    rw [outOf_succ, List.mem_append, out_mem]
    constructor
    · rintro (⟨i, hi, h⟩ | h)
      · exact ⟨i, by omega, h⟩
      · exact ⟨n, by omega, h⟩
    · rintro ⟨i, hi, h⟩
      rcases Nat.lt_or_ge i n with h1 | h1
      · exact .inl ⟨i, h1, h⟩
      · obtain rfl : i = n := by omega
        exact .inr h
theorem outAt_mem {g : Prim → Int × Int} {K : List Prim} {s : Sec} {i : Nat} : s ∈ outAt g K i ↔ g K[i]! ≠ (0, 0) ∧ s = ⟨(K[i]!).1.1, (K[i]!).1.2, (K[(i + 1) % K.length]!).1.1, (K[(i + 1) % K.length]!).1.2, (g K[i]!).1, (g K[i]!).2⟩ := by
  unfold outAt
  split <;> simp_all
theorem hs_out {g : Prim → Int × Int} {K : List Prim} {s : Sec} {i : Nat} (h : s ∈ outAt g K i) (v : Prim) : hs s v.1 = arc K[i]! K[(i + 1) % K.length]! v := by
  rw [(outAt_mem.1 h).2]
  rfl
theorem lit_ok {ss : List Sec} (h : LValid ss = true) {v : Prim} (hl : shP ss v ≠ (0, 0)) : (1 ≤ (shP ss v).1 ∧ (shP ss v).1 ≤ 3) ∧ 1 ≤ (shP ss v).2 ∧ (shP ss v).2 ≤ 3000000 := by
  rcases Classical.em (∃ s ∈ ss, hs s v.1 = true) with ⟨s, hs', hh⟩ | hc
  · obtain ⟨k, hk⟩ := List.getElem?_of_mem hs'
    have hok := (LV_ok h).1 s hs'
    rw [shP_shA, (shA_at h (pr_nz v) hk hh).1]
    simp [Sec.ok, secOk] at hok
    exact ⟨by omega, by omega⟩
  · exfalso
    apply hl
    rw [shP_shA]
    exact shA_none fun s hs' => by cases hh : hs s v.1; rfl; exact (hc ⟨s, hs', hh⟩).elim
/-- The lit changes. -/
def litK (g : Prim → Int × Int) (K : List Prim) : List Prim := K.filter fun k => decide (g k ≠ (0, 0))
theorem out_len (g : Prim → Int × Int) (K : List Prim) : (outOf g K K.length).length = (litK g K).length := by
  have key : ∀ n, n ≤ K.length → (outOf g K n).length = ((K.take n).filter fun k => decide (g k ≠ (0, 0))).length := by
    intro n
    induction n with
    | zero => intro _; simp [outOf]
    | succ n ih =>
      intro hn
      rw [outOf_succ, List.length_append, ih (by omega), List.take_add_one, List.getElem?_eq_getElem (by omega), List.filter_append, List.length_append]
      unfold outAt
      rw [bang_of (by omega : n < K.length)]
      by_cases h : g K[n] ≠ (0, 0)
      · rw [if_pos h]; simp [h]
      · rw [if_neg h]
        have h' : g K[n] = (0, 0) := Decidable.byContradiction h
        simp [h']
  rw [key _ (Nat.le_refl _), List.take_length]
  rfl
theorem len_le {α : Type} [DecidableEq α] : ∀ {a b : List α}, a.Nodup → (∀ x ∈ a, x ∈ b) → a.length ≤ b.length
  | [], b, _, _ => Nat.zero_le _
  | x :: a, b, h, hs' => by
    obtain ⟨h1, h2⟩ := List.nodup_cons.1 h
    have hx := hs' x (by simp)
    have := len_le (b := b.erase x) h2 fun y hy => by
      rw [List.mem_erase_of_ne (fun e => by subst e; exact h1 hy)]
      exact hs' y (by simp [hy])
    have hl := List.length_erase_of_mem hx
    have hp := List.length_pos_of_mem hx
    rw [List.length_cons]
    omega
theorem lit_from {ss : List Sec} (h : LValid ss = true) {k : Prim} (hc : Chg (shP ss) k) (hl : shP ss k ≠ (0, 0)) : ∃ s ∈ ss, shortP s.fx s.fy = k := by
  rcases Classical.em (∃ s ∈ ss, hs s k.1 = true) with ⟨s, hs', hh⟩ | hno
  · refine ⟨s, hs', Decidable.byContradiction fun hne => ?_⟩
    obtain ⟨i, hi⟩ := List.getElem?_of_mem hs'
    have hok := (LV_ok h).1 s hs'
    have e1 := (shA_at h (pr_nz k) hi hh).1
    have hx : ∀ x, arc (shortP s.fx s.fy) k x = true → shP ss x = shP ss k := fun x hx => by
      have hsx : hs s x.1 = true := by
        rw [hs_short hok] at hh ⊢
        have m1 : shortP s.fx s.fy ∈ [shortP s.fx s.fy, shortP s.tx s.ty, k, x] := by simp
        have m2 : shortP s.tx s.ty ∈ [shortP s.fx s.fy, shortP s.tx s.ty, k, x] := by simp
        have m3 : k ∈ [shortP s.fx s.fy, shortP s.tx s.ty, k, x] := by simp
        have m4 : x ∈ [shortP s.fx s.fy, shortP s.tx s.ty, k, x] := by simp
        have hn := mt (R_eq m1 m3).2 hne
        rw [arc_R m1 m2 m3] at hh
        rw [arc_R m1 m3 m4] at hx
        rw [arc_R m1 m2 m4]
        omega
      rw [shP_shA, shP_shA, e1, (shA_at h (pr_nz x) hi hsx).1]
    obtain ⟨p, hpk, hf, hp⟩ := hc
    rcases arc_two hpk hne with h1 | h1
    · exact hf (by rw [← hp _ h1, hx _ arc_self])
    · exact hf (hx p h1)
  · exfalso
    apply hl
    rw [shP_shA]
    exact shA_none fun s hs' => by cases hh : hs s k.1; rfl; exact (hno ⟨s, hs', hh⟩).elim
theorem litK_len {ss : List Sec} (h : LValid ss = true) {K : List Prim} (hS : Srt K) (hK : ∀ v, v ∈ K ↔ Chg (shP ss) v) : (litK (shP ss) K).length ≤ ss.length := by
  have := len_le (a := litK (shP ss) K) (b := ss.map fun s => shortP s.fx s.fy) ((srt_nodup hS).filter _) fun x hx => by
    obtain ⟨h1, h2⟩ := List.mem_filter.1 hx
    obtain ⟨s, hs', e⟩ := lit_from h ((hK x).1 h1) (by simpa using h2)
    exact List.mem_map.2 ⟨s, hs', e⟩
  simpa using this
theorem one_all (c r : Int) (v : Prim) : hs ⟨1, 0, 1, 0, c, r⟩ v.1 = true := by
  have : cmpw 1 0 1 0 = 0 := cmpw_self 1 0
  show hasw 1 0 1 0 v.1.1 v.1.2 = true
  unfold hasw
  rw [this]
  rfl
/-- The normal form shows the same, is valid, and is no longer. -/
theorem norm_same {ss : List Sec} (h : LValid ss = true) : (∀ v, shP (normList ss) v = shP ss v) ∧ LValid (normList ss) = true ∧ (normList ss).length ≤ ss.length := by
  rcases Decidable.em (ss = []) with h0 | h0
  · subst h0
    exact ⟨fun _ => rfl, by decide, Nat.le_refl _⟩
  · obtain ⟨y, K, hS, hK, hc, e⟩ := norm_parts h h0
    have hE := all_ends h
    rcases Decidable.em (K = []) with hk | hk
    · rw [if_pos hk] at e
      have hlit : shP ss y ≠ (0, 0) := by
        obtain ⟨v, hv⟩ := lit_ss h h0
        rwa [hc hk v] at hv
      have hok := lit_ok h hlit
      rw [e]
      refine ⟨fun v => ?_, ?_, ?_⟩
      · rw [hc hk v, shP_shA, shA_def]
        simp [List.find?_cons, one_all]
      · rw [LValid_iff, LV_pair]
        refine ⟨fun s hs' => ?_, by simp, by simp⟩
        rw [List.mem_singleton.1 hs']
        simp [Sec.ok, secOk, dirOk]
        exact hok
      · have := List.length_pos_iff.2 h0
        simp
        omega
    · rw [if_neg hk] at e
      have hlen : (normList ss).length ≤ ss.length := by rw [e, out_len]; exact litK_len h hS hK
      refine ⟨fun v => ?_, ?_, hlen⟩
      · obtain ⟨q, hq⟩ := wp_ex hk v
        rw [wpk_const hE hK hq, e]
        obtain ⟨i, hi, hiq⟩ := List.getElem_of_mem hq.1
        have hqi : K[i]! = q := by rw [bang_of hi, hiq]
        have key : ∀ s ∈ outOf (shP ss) K K.length, hs s v.1 = true → (s.col, s.rng) = shP ss q := fun s hs' hh => by
          obtain ⟨j, hj, hm⟩ := out_mem.1 hs'
          rw [hs_out hm, arc_next hS hj] at hh
          have := wp_uniq hh hq
          rw [(outAt_mem.1 hm).2, this]
        rw [shP_shA, shA_def]
        cases hf : (outOf (shP ss) K K.length).find? (fun s => hs s v.1) with
        | some s => exact key s (List.mem_of_find?_eq_some hf) (by simpa using List.find?_some hf)
        | none =>
          rcases Decidable.em (shP ss q = (0, 0)) with hz | hz
          · exact hz.symm
          · exfalso
            rw [List.find?_eq_none] at hf
            have hm : (⟨(K[i]!).1.1, (K[i]!).1.2, (K[(i + 1) % K.length]!).1.1, (K[(i + 1) % K.length]!).1.2, (shP ss K[i]!).1, (shP ss K[i]!).2⟩ : Sec) ∈ outAt (shP ss) K i := outAt_mem.2 ⟨by rw [hqi]; exact hz, rfl⟩
            have := hf _ (out_mem.2 ⟨i, hi, hm⟩)
            rw [hs_out hm, (arc_next hS hi v).2 (by rw [hqi]; exact hq)] at this
            exact this rfl
      · rw [e] at hlen ⊢
        rw [LValid_iff, LV_pair]
        refine ⟨fun s hs' => ?_, ?_, by have := (LV_ok h).2; omega⟩
        · obtain ⟨j, hj, hm⟩ := out_mem.1 hs'
          obtain ⟨hl, rfl⟩ := outAt_mem.1 hm
          obtain ⟨h1, h2⟩ := lit_ok h hl
          have d1 := prim_dir K[j]!
          have d2 := prim_dir K[(j + 1) % K.length]!
          simp only [Sec.ok, secOk, d1, d2, Bool.true_and, Bool.and_eq_true, decide_eq_true_eq]
          exact ⟨h1, h2⟩
        · unfold outOf
          rw [List.pairwise_flatMap]
          refine ⟨fun i _ => ?_, ?_⟩
          · split <;> simp
          · refine List.Pairwise.imp_of_mem (fun {i j} hi hj hij s hs' t ht' => ?_) List.pairwise_lt_range
            have hi' := List.mem_range.1 hi
            have hj' := List.mem_range.1 hj
            have ms : s ∈ outAt (shP ss) K i := hs'
            have mt' : t ∈ outAt (shP ss) K j := ht'
            have hne : ∀ a b, a < K.length → b < K.length → a ≠ b → arc K[a]! K[(a + 1) % K.length]! K[b]! = false := fun a b ha hb hab => by
              cases hc' : arc K[a]! K[(a + 1) % K.length]! K[b]! with
              | false => rfl
              | true =>
                have h9 := wp_uniq ((arc_next hS ha _).1 hc') (wp_self (bang_mem hb))
                exfalso
                rcases Nat.lt_or_gt_of_ne hab with h8 | h8
                · have := srt_get hS h8 hb
                  rw [h9, leP_refl] at this
                  cases this
                · have := srt_get hS h8 ha
                  rw [h9, leP_refl] at this
                  cases this
            have e1 : clash s t = (hs s t.fr || hs t s.fr) := rfl
            have f1 : t.fr = (K[j]!).1 := by rw [(outAt_mem.1 mt').2]; rfl
            have f2 : s.fr = (K[i]!).1 := by rw [(outAt_mem.1 ms).2]; rfl
            rw [e1, f1, f2, hs_out ms, hs_out mt', hne i j hi' hj' (by omega), hne j i hj' hi' (by omega)]
            rfl
end Go.Proofs.Ytgcgaplhaglejaa
