/- Plain law: the normal form of a light turned by a quarter is as long. -/
import Derived.Test.YtgcgaplhaglejaaPlainF
namespace Go.Proofs.Ytgcgaplhaglejaa
set_option linter.unusedVariables false
set_option linter.unusedSimpArgs false
open Go.RowKit Go.Sort Go.Lib

theorem prim_qt {v : Int × Int} (h : prim v = true) : prim (qt v) = true := by
  unfold prim qt at *
  rw [Bool.and_eq_true] at h ⊢
  refine ⟨by rw [dirOk_qt]; exact h.1, ?_⟩
  have h2 := h.2
  simp only [decide_eq_true_eq] at h2 ⊢
  rw [Int.neg_gcd, Int.gcd_comm]
  exact h2
def rotP (v : Prim) : Prim := ⟨qt v.1, prim_qt v.2⟩
theorem rot4 (v : Prim) : rotP (rotP (rotP (rotP v))) = v := Subtype.ext (by
  show (-(-(v.1.1)), -(-(v.1.2))) = v.1
  rw [Int.neg_neg, Int.neg_neg])
theorem rot_surj (v : Prim) : ∃ u, rotP u = v := ⟨rotP (rotP (rotP v)), rot4 v⟩
theorem rot_inj {u v : Prim} (h : rotP u = rotP v) : u = v := by
  have := congrArg (fun x => rotP (rotP (rotP x))) h
  simpa only [rot4] using this
theorem arc_rot (p v x : Prim) : arc (rotP p) (rotP v) (rotP x) = arc p v x :=
  hs_qt (s := ⟨p.1.1, p.1.2, v.1.1, v.1.2, 0, 0⟩) (pr_nz p) (pr_nz v) (pr_nz x)
theorem shP_rot {ss : List Sec} (h : LValid ss = true) (v : Prim) : shP (ss.map qtS) (rotP v) = shP ss v := shA_qt (LV_nzs h) (pr_nz v)
theorem chg_rot {ss : List Sec} (h : LValid ss = true) (v : Prim) : Chg (shP (ss.map qtS)) (rotP v) ↔ Chg (shP ss) v := by
  constructor
  · rintro ⟨p, h1, h2, h3⟩
    obtain ⟨q, rfl⟩ := rot_surj p
    refine ⟨q, fun e => h1 (by rw [e]), by rw [← shP_rot h, ← shP_rot h]; exact h2, fun x hx => ?_⟩
    rw [← shP_rot h, ← shP_rot h]
    exact h3 _ (by rw [arc_rot]; exact hx)
  · rintro ⟨p, h1, h2, h3⟩
    refine ⟨rotP p, fun e => h1 (rot_inj e), by rw [shP_rot h, shP_rot h]; exact h2, fun x hx => ?_⟩
    obtain ⟨y, rfl⟩ := rot_surj x
    rw [shP_rot h, shP_rot h]
    exact h3 _ (by rw [← arc_rot]; exact hx)
theorem norm_len {ss : List Sec} (h : LValid ss = true) : (normList (ss.map qtS)).length = (normList ss).length := by
  rcases Decidable.em (ss = []) with h0 | h0
  · rw [h0]; rfl
  · have h' := LValid_qt h
    obtain ⟨y, K, s1, m1, _, e1⟩ := norm_parts h h0
    obtain ⟨z, L, s2, m2, _, e2⟩ := norm_parts h' (by simpa using h0)
    have mem : ∀ v, rotP v ∈ L ↔ v ∈ K := fun v => by rw [m2, m1, chg_rot h]
    rw [e1, e2]
    rcases Decidable.em (K = []) with hk | hk
    · have hl : L = [] := by
        cases hL : L with
        | nil => rfl
        | cons a l =>
          obtain ⟨u, rfl⟩ := rot_surj a
          have := (mem u).1 (by rw [hL]; simp)
          rw [hk] at this
          cases this
      rw [if_pos hk, if_pos hl]
      rfl
    · have hl : L ≠ [] := fun hl => by
        obtain ⟨u, hu⟩ := List.exists_mem_of_ne_nil _ hk
        have := (mem u).2 hu
        rw [hl] at this
        cases this
      rw [if_neg hk, if_neg hl, out_len, out_len]
      have n1 : (litK (shP ss) K).Nodup := (srt_nodup s1).filter _
      have n2 : (litK (shP (ss.map qtS)) L).Nodup := (srt_nodup s2).filter _
      have n3 : ((litK (shP ss) K).map rotP).Nodup := List.Pairwise.map rotP (fun a b (hab : a ≠ b) e => hab (rot_inj e)) n1
      have lm : ∀ v, rotP v ∈ litK (shP (ss.map qtS)) L ↔ v ∈ litK (shP ss) K := fun v => by
        unfold litK
        rw [List.mem_filter, List.mem_filter, mem, shP_rot h]
      have a1 := len_le n3 (b := litK (shP (ss.map qtS)) L) fun x hx => by
        obtain ⟨u, hu, rfl⟩ := List.mem_map.1 hx
        exact (lm u).2 hu
      have a2 := len_le n2 (b := (litK (shP ss) K).map rotP) fun x hx => by
        obtain ⟨u, rfl⟩ := rot_surj x
        exact List.mem_map.2 ⟨u, (lm u).1 hx, rfl⟩
      rw [List.length_map] at a1 a2
      omega
end Go.Proofs.Ytgcgaplhaglejaa
