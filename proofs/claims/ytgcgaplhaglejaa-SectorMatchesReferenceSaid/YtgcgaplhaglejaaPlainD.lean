/- Plain law: where what a light shows changes. -/
import Derived.Test.YtgcgaplhaglejaaPlainC
import Derived.Test.YtgcgaplhaglejaaNorm
namespace Go.Proofs.Ytgcgaplhaglejaa
set_option linter.unusedVariables false
set_option linter.unusedSimpArgs false
open Go.RowKit Go.Sort Go.Lib

theorem pr_nz (v : Prim) : NZ v.1 := dir_ne (prim_dir v)
theorem pr_eq {u v : Prim} (h : cw u.1 v.1 = 0) : u = v := Subtype.ext (prim_eq u.2 v.2 h)
def R (L : List Prim) (v : Prim) : Nat := rk (L.map (·.1)) v.1
theorem R_nz (L : List Prim) : ∀ e ∈ L.map (·.1), NZ e := fun e he => by
  obtain ⟨v, _, rfl⟩ := List.mem_map.1 he
  exact pr_nz v
theorem R_le {L : List Prim} {u v : Prim} (hu : u ∈ L) (hv : v ∈ L) : leP u v = true ↔ R L u ≤ R L v := by
  have := rk_iff (R_nz L) (List.mem_map.2 ⟨u, hu, rfl⟩) (List.mem_map.2 ⟨v, hv, rfl⟩)
  unfold leP
  rw [decide_eq_true_eq]
  exact this
theorem R_nle {L : List Prim} {u v : Prim} (hu : u ∈ L) (hv : v ∈ L) : leP u v = false ↔ R L v < R L u := by
  have := R_le hu hv
  cases h : leP u v
  · rw [h] at this
    simp at this ⊢
    exact this
  · rw [h] at this
    simp at this ⊢
    exact this
theorem R_eq {L : List Prim} {u v : Prim} (hu : u ∈ L) (hv : v ∈ L) : u = v ↔ R L u = R L v := by
  constructor
  · intro h; rw [h]
  · intro h
    rcases rk_cases (R_nz L) (List.mem_map.2 ⟨u, hu, rfl⟩) (List.mem_map.2 ⟨v, hv, rfl⟩) with ⟨_, h1⟩ | ⟨h1, _⟩ | ⟨_, h1⟩
    · unfold R at h; omega
    · exact pr_eq h1
    · unfold R at h; omega
/-- The directions from p to v. -/
def arc (p v x : Prim) : Bool := hasw p.1.1 p.1.2 v.1.1 v.1.2 x.1.1 x.1.2
theorem arc_R {L : List Prim} {p v x : Prim} (hp : p ∈ L) (hv : v ∈ L) (hx : x ∈ L) :
    arc p v x = true ↔ ((R L p < R L v ∧ R L p ≤ R L x ∧ R L x < R L v) ∨ (R L v < R L p ∧ (R L p ≤ R L x ∨ R L x < R L v)) ∨ R L p = R L v) :=
  hs_rk (s := ⟨p.1.1, p.1.2, v.1.1, v.1.2, 0, 0⟩) (R_nz L) (List.mem_map.2 ⟨p, hp, rfl⟩) (List.mem_map.2 ⟨v, hv, rfl⟩) (List.mem_map.2 ⟨x, hx, rfl⟩)
/-- q is the last of A up to v. -/
def WP (A : List Prim) (q v : Prim) : Prop := q ∈ A ∧ ∀ e ∈ A, (leP q v = true → (leP e q = true ∨ leP e v = false)) ∧ (leP q v = false → leP e q = true ∧ leP e v = false)
theorem wp_ex {A : List Prim} (hne : A ≠ []) (v : Prim) : ∃ q, WP A q v := by
  have hin : ∀ e ∈ A, e ∈ v :: A := fun e he => by simp [he]
  have hv : v ∈ v :: A := by simp
  have mx : ∀ l : List Prim, l ≠ [] → ∃ t ∈ l, ∀ e ∈ l, R (v :: A) e ≤ R (v :: A) t := by
    intro l
    induction l with
    | nil => intro h; exact (h rfl).elim
    | cons a l ih =>
      intro _
      rcases Decidable.em (l = []) with h | h
      · subst h
        exact ⟨a, by simp, fun e he => by simp at he; rw [he]; exact Nat.le_refl _⟩
      · obtain ⟨t, ht, hm⟩ := ih h
        rcases Nat.le_total (R (v :: A) a) (R (v :: A) t) with h1 | h1
        · exact ⟨t, by simp [ht], fun e he => (List.mem_cons.1 he).elim (fun h2 => by rw [h2]; exact h1) (fun h2 => hm e h2)⟩
        · exact ⟨a, by simp, fun e he => (List.mem_cons.1 he).elim (fun h2 => by rw [h2]; exact Nat.le_refl _) (fun h2 => Nat.le_trans (hm e h2) h1)⟩
  by_cases hc : ∃ e ∈ A, leP e v = true
  · obtain ⟨t, ht, hm⟩ := mx (A.filter fun e => leP e v) (by
      obtain ⟨e, he, hr⟩ := hc
      exact List.ne_nil_of_mem (List.mem_filter.2 ⟨he, hr⟩))
    obtain ⟨htA, htv⟩ := List.mem_filter.1 ht
    refine ⟨t, htA, fun e he => ⟨fun _ => ?_, (fun h => by rw [htv] at h; cases h)⟩⟩
    cases h : leP e v
    · exact .inr rfl
    · exact .inl ((R_le (hin e he) (hin t htA)).2 (hm e (List.mem_filter.2 ⟨he, h⟩)))
  · obtain ⟨t, ht, hm⟩ := mx A hne
    have hno : ∀ e ∈ A, leP e v = false := fun e he => by
      cases h : leP e v
      · rfl
      · exact (hc ⟨e, he, h⟩).elim
    refine ⟨t, ht, fun e he => ⟨(fun h => by rw [hno t ht] at h; cases h), fun _ => ⟨(R_le (hin e he) (hin t ht)).2 (hm e he), hno e he⟩⟩⟩
/-- All ends of the light's sectors, made shortest, are in A. -/
def Ends (ss : List Sec) (A : List Prim) : Prop := ∀ s ∈ ss, s.ok = true ∧ shortP s.fx s.fy ∈ A ∧ shortP s.tx s.ty ∈ A
theorem has_scale3 {g k a b c d x y : Int} (hg : 0 < g) (hk : 0 < k) : hasw (g * a) (g * b) (k * c) (k * d) x y = hasw a b c d x y := by
  unfold hasw
  rw [cmpw_scale hg, cmpw_scale_r hk, cmpw_scale hg, cmpw_scale hk]
theorem shA_scaleP {k : Int} (hk : 0 < k) (ss : List Sec) (x y : Int) : shA ss (k * x, k * y) = shA ss (x, y) := shA_congr fun s _ => by
  show hasw _ _ _ _ _ _ = hasw _ _ _ _ _ _
  dsimp only
  unfold hasw
  rw [cmpw_scale_r hk, cmpw_scale_r hk]
theorem hs_short {s : Sec} (h : s.ok = true) (v : Prim) : hs s v.1 = arc (shortP s.fx s.fy) (shortP s.tx s.ty) v := by
  simp only [Sec.ok, secOk, Bool.and_eq_true] at h
  obtain ⟨g, hg, e1, e2⟩ := short_mul h.1.1.1
  obtain ⟨k, hk, e3, e4⟩ := short_mul h.1.1.2
  show hasw s.fx s.fy s.tx s.ty v.1.1 v.1.2 = hasw _ _ _ _ _ _
  rw [shortP_val h.1.1.1, shortP_val h.1.1.2]
  have := has_scale3 (x := v.1.1) (y := v.1.2) hg hk (a := (shortOf s.fx s.fy).1) (b := (shortOf s.fx s.fy).2) (c := (shortOf s.tx s.ty).1) (d := (shortOf s.tx s.ty).2)
  rw [← e1, ← e2, ← e3, ← e4] at this
  exact this
theorem shP_shA (ss : List Sec) (v : Prim) : shP ss v = shA ss v.1 := rfl
theorem shA_short {ss : List Sec} {x y : Int} (h : dirOk x y = true) : shA ss (x, y) = shP ss (shortP x y) := by
  obtain ⟨g, hg, e1, e2⟩ := short_mul h
  rw [shP_shA, shortP_val h]
  have := shA_scaleP hg ss (shortOf x y).1 (shortOf x y).2
  rw [← e1, ← e2] at this
  exact this
theorem wp_const {ss : List Sec} {A : List Prim} (hE : Ends ss A) {q v : Prim} (h : WP A q v) : shP ss v = shP ss q := by
  rw [shP_shA, shP_shA]
  refine shA_congr fun s hs' => ?_
  obtain ⟨h1, h2, h3⟩ := hE s hs'
  have hL : ∀ e ∈ A, e ∈ v :: A := fun e he => by simp [he]
  have hv : v ∈ v :: A := by simp
  have hq := hL q h.1
  obtain ⟨a1, a2⟩ := h.2 _ h2
  obtain ⟨b1, b2⟩ := h.2 _ h3
  rw [hs_short h1, hs_short h1, Bool.eq_iff_iff, arc_R (hL _ h2) (hL _ h3) hv, arc_R (hL _ h2) (hL _ h3) hq]
  rw [R_le hq hv, R_le (hL _ h2) hq, R_nle (hL _ h2) hv] at a1
  rw [R_nle hq hv, R_le (hL _ h2) hq, R_nle (hL _ h2) hv] at a2
  rw [R_le hq hv, R_le (hL _ h3) hq, R_nle (hL _ h3) hv] at b1
  rw [R_nle hq hv, R_le (hL _ h3) hq, R_nle (hL _ h3) hv] at b2
  omega
/-- q is the last of A before v. -/
def SP (A : List Prim) (q v : Prim) : Prop := q ≠ v ∧ WP (A.filter (· ≠ v)) q v
theorem sp_ex {A : List Prim} {v : Prim} (h : ∃ e ∈ A, e ≠ v) : ∃ q, SP A q v := by
  obtain ⟨e, he, hv⟩ := h
  obtain ⟨q, hq⟩ := wp_ex (List.ne_nil_of_mem (List.mem_filter.2 ⟨he, by simpa using hv⟩) : A.filter (· ≠ v) ≠ []) v
  have := (List.mem_filter.1 hq.1).2
  exact ⟨q, by simpa using this, hq⟩
theorem sp_mem {A : List Prim} {q v : Prim} (h : SP A q v) : q ∈ A := (List.mem_filter.1 h.2.1).1
theorem sp_arc {A : List Prim} {q v x : Prim} (h : SP A q v) (hx : arc q v x = true) : WP A q x := by
  refine ⟨sp_mem h, fun e he => ?_⟩
  have hL : ∀ a ∈ A, a ∈ v :: x :: A := fun a ha => by simp [ha]
  have hv : v ∈ v :: x :: A := by simp
  have hx' : x ∈ v :: x :: A := by simp
  have hq := hL q (sp_mem h)
  have hqv := mt (R_eq hq hv).2 h.1
  rw [arc_R hq hv hx'] at hx
  rw [R_le hq hx', R_nle hq hx', R_le (hL e he) hq, R_nle (hL e he) hx']
  by_cases hev : e = v
  · subst hev
    omega
  · have h1 := h.2.2 e (List.mem_filter.2 ⟨he, by simpa using hev⟩)
    rw [R_le hq hv, R_nle hq hv, R_le (hL e he) hq, R_nle (hL e he) hv] at h1
    omega
/-- What is shown changes at v. -/
def Chg {α : Type} (f : Prim → α) (v : Prim) : Prop := ∃ p, p ≠ v ∧ f p ≠ f v ∧ ∀ x, arc p v x = true → f x = f p
theorem arc_self {p v : Prim} : arc p v p = true := by
  have h1 : p ∈ [p, v] := by simp
  have h2 : v ∈ [p, v] := by simp
  rw [arc_R h1 h2 h1]
  omega
theorem arc_two {p q v : Prim} (hp : p ≠ v) (hq : q ≠ v) : arc p v q = true ∨ arc q v p = true := by
  have h1 : p ∈ [p, q, v] := by simp
  have h2 : q ∈ [p, q, v] := by simp
  have h3 : v ∈ [p, q, v] := by simp
  have e1 := mt (R_eq h1 h3).2 hp
  have e2 := mt (R_eq h2 h3).2 hq
  rw [arc_R h1 h3 h2, arc_R h2 h3 h1]
  omega
theorem chg_iff {ss : List Sec} {A : List Prim} (hE : Ends ss A) {q v : Prim} (h : SP A q v) : Chg (shP ss) v ↔ shP ss q ≠ shP ss v := by
  have hc : ∀ x, arc q v x = true → shP ss x = shP ss q := fun x hx => wp_const hE (sp_arc h hx)
  constructor
  · rintro ⟨p, hpv, hf, hx⟩ he
    rcases arc_two hpv h.1 with h1 | h1
    · exact hf (by rw [← hx q h1, he])
    · exact hf (by rw [hc p h1, he])
  · exact fun hne => ⟨q, h.1, hne, hc⟩
theorem ends_nil {ss : List Sec} {A : List Prim} (hE : Ends ss A) (h : A = []) : ss = [] := by
  cases ss with
  | nil => rfl
  | cons s ss =>
    have := (hE s (by simp)).2.1
    rw [h] at this
    cases this
theorem chg_not {ss : List Sec} {A : List Prim} (hE : Ends ss A) {v : Prim} (h : ¬ ∃ e ∈ A, e ≠ v) : ¬ Chg (shP ss) v := by
  rintro ⟨p, hpv, hf, _⟩
  apply hf
  rcases Decidable.em (A = []) with hA | hA
  · have := ends_nil hE hA
    subst this
    rfl
  · have hall : ∀ e ∈ A, e = v := fun e he => Decidable.byContradiction fun hne => h ⟨e, he, hne⟩
    obtain ⟨q, hq⟩ := wp_ex hA p
    obtain ⟨r, hr⟩ := wp_ex hA v
    rw [wp_const hE hq, wp_const hE hr, hall q hq.1, hall r hr.1]
theorem chg_mem {ss : List Sec} {A : List Prim} (hE : Ends ss A) {v : Prim} (h : Chg (shP ss) v) : v ∈ A := by
  rcases Decidable.em (v ∈ A) with h1 | h1
  · exact h1
  · exfalso
    rcases Classical.em (∃ e ∈ A, e ≠ v) with h2 | h2
    · obtain ⟨q, hq⟩ := sp_ex h2
      have e : A.filter (· ≠ v) = A := List.filter_eq_self.2 fun a ha => by have h9 : a ≠ v := fun e => h1 (e ▸ ha); simpa using h9
      have hw := hq.2
      rw [e] at hw
      exact (chg_iff hE hq).1 h (wp_const hE hw).symm
    · exact chg_not hE h2 h
theorem wp_uniq {A : List Prim} {q r v : Prim} (h1 : WP A q v) (h2 : WP A r v) : q = r := by
  have hL : ∀ a ∈ A, a ∈ v :: A := fun a ha => by simp [ha]
  have hv : v ∈ v :: A := by simp
  have hq := hL q h1.1
  have hr := hL r h2.1
  have a := h1.2 r h2.1
  have b := h2.2 q h1.1
  rw [R_le hq hv, R_nle hq hv, R_le hr hq, R_nle hr hv] at a
  rw [R_le hr hv, R_nle hr hv, R_le hq hr, R_nle hq hv] at b
  rw [R_eq hq hr]
  omega
/-- Among A's changes K: what is shown at v is what is shown at the last of K up to v. -/
theorem wpk_const {ss : List Sec} {A K : List Prim} (hE : Ends ss A) (hK : ∀ k, k ∈ K ↔ Chg (shP ss) k) {q v : Prim} (h : WP K q v) : shP ss v = shP ss q := by
  have hKA : ∀ k ∈ K, k ∈ A := fun k hk => chg_mem hE ((hK k).1 hk)
  have hqA := hKA q h.1
  have hL : ∀ a ∈ A, a ∈ v :: A := fun a ha => by simp [ha]
  have hv : v ∈ v :: A := by simp
  have hq := hL q hqA
  -- the place behind q
  let d : Prim → Nat := fun e => if R (v :: A) q ≤ R (v :: A) e then R (v :: A) e - R (v :: A) q else R (v :: A) e + ((v :: A).map (·.1)).length + 1 - R (v :: A) q
  have hb : ∀ e, R (v :: A) e ≤ ((v :: A).map (·.1)).length := fun e => List.length_filter_le _ _
  have inA : ∀ e, Prop := fun e => d e ≤ d v
  have mn : ∀ (n : Nat) (e : Prim), e ∈ A → d e ≤ d v → shP ss e = shP ss v → d e ≤ n → shP ss q = shP ss v := by
    intro n
    induction n with
    | zero =>
      intro e he hev hf hn
      have hbe := hb e
      have hbq := hb q
      have : e = q := by
        rw [R_eq (hL e he) hq]
        simp only [d] at hn
        split at hn <;> omega
      rw [← this]
      exact hf
    | succ n ih =>
      intro e he hev hf hn
      by_cases heq : e = q
      · rw [← heq]; exact hf
      · have heR := mt (R_eq (hL e he) hq).2 heq
        have hnk : e ∉ K := fun hk => by
          have h1 := h.2 e hk
          rw [R_le hq hv, R_nle hq hv, R_le (hL e he) hq, R_nle (hL e he) hv] at h1
          have hbe := hb e
          have hbv := hb v
          have hbq := hb q
          simp only [d] at hev
          split at hev <;> split at hev <;> omega
        have hno : ¬ Chg (shP ss) e := fun hc => hnk ((hK e).2 hc)
        obtain ⟨p, hp⟩ := sp_ex (A := A) (v := e) ⟨q, hqA, fun h => heq h.symm⟩
        have hfp : shP ss p = shP ss e := Decidable.byContradiction fun hne => hno ((chg_iff hE hp).2 hne)
        have hpA := sp_mem hp
        have hpR := mt (R_eq (hL p hpA) (hL e he)).2 hp.1
        have h1 := hp.2.2 q (List.mem_filter.2 ⟨hqA, by simpa using fun h => heq h.symm⟩)
        rw [R_le (hL p hpA) (hL e he), R_nle (hL p hpA) (hL e he), R_le hq (hL p hpA), R_nle hq (hL e he)] at h1
        have hbp := hb p
        have hbe := hb e
        have hbq := hb q
        have hlt : d p < d e := by
          simp only [d]
          split <;> split <;> omega
        exact ih p hpA (by omega) (by rw [hfp, hf]) (by omega)
  obtain ⟨a, ha⟩ := wp_ex (List.ne_nil_of_mem hqA) v
  have haA := ha.1
  have h1 := ha.2 q hqA
  rw [R_le (hL a haA) hv, R_nle (hL a haA) hv, R_le hq (hL a haA), R_nle hq hv] at h1
  have hba := hb a
  have hbv := hb v
  have hbq := hb q
  exact (mn (d a) a haA (by simp only [d]; split <;> split <;> omega) (wp_const hE ha).symm (Nat.le_refl _)).symm
end Go.Proofs.Ytgcgaplhaglejaa
