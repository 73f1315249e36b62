/- The reference implementation: short, and what sorted is made of. -/
import Derived.Test.YtgcgaplhaglejaaRefG
import Derived.Test.YtgcgaplhaglejaaPlainG
namespace Go.Proofs.Ytgcgaplhaglejaa
set_option linter.unusedVariables false
set_option linter.unusedSimpArgs false
open Go.RowKit Go.Sort
attribute [local go_sem] Steady steadyUpon
attribute [local go_sem ↓] hs_dr lt_add_r lt_add_r2 lt_add_r3 lt_add_r4 lt_add_r5 lt_add_r6
attribute [local go_sem] cell?_gd frozen?_gd setCell_gd size_grow tape_grow cell?_grow' frozen?_grow' setCell_grow' grow_grow grow_dr grow_drew dr_dr dr_drew drew_dr dr_alloc dr_setCell dr_cell dr_frozen dr_tape dr_drawn
attribute [local irreducible] wpSteady

set_option maxHeartbeats 1000000 in
theorem rshort_any (x y : Int) (w : World) (h : dirOk x y = true) :
    Calls Try.prog 58 #[pt x y] w (Ret w (pt (shortOf x y).1 (shortOf x y).2)) := by
  have hm := hmix
  have hg : 0 < Int.gcd x y := by
    simp [dirOk] at h
    rw [Int.gcd_pos_iff]
    exact h.1
  have hxy : (-1000000 ≤ x ∧ x ≤ 1000000) ∧ (-1000000 ≤ y ∧ y ≤ 1000000) := by simp [dirOk] at h; omega
  clear h
  unfold shortOf
  obtain ⟨g, hgd⟩ : ∃ g, x.gcd y = g := ⟨_, rfl⟩
  rw [hgd] at hg ⊢
  have HGD := hide hgd
  clear hgd
  have e1 : IntKind.i64.wrap (-x) = -x := by unfold IntKind.wrap; simp [IntKind.bits, IntKind.signed]; omega
  have e2 : IntKind.i64.wrap (-y) = -y := by unfold IntKind.wrap; simp [IntKind.bits, IntKind.signed]; omega
  go_enter Try.func58, Try.ntmps58
  go_wp2_with fail
  all_goals (go_loopw [3, 4] (fun a b wr => ∃ p q : Nat, a = .int .i64 p ∧ b = .int .i64 q ∧ Nat.gcd p q = g ∧ p ≤ 1000000 ∧ q ≤ 1000000 ∧ Grew ((w.alloc (.cells #[.int .i64 x, .int .i64 y] 24)).alloc (.cells #[.int .i64 0, .int .i64 0] 24)) wr) (fun _ b _ => (intOf b).toNat))
  all_goals try
    case atStart =>
      refine ⟨x.natAbs, y.natAbs, ret_int (by omega), ret_int (by omega), HGD.out, by omega, by omega, (by repeat (with_reducible first | exact Grew.refl _ | assumption | refine Grew.alloc ?_ _ | refine Grew.grow ?_ _ | refine Grew.dr ?_ _ | refine Grew.drewN ?_ _ | refine Grew.drew ?_ | refine Grew.trans ?_ (Hid.out (by assumption))))⟩
  all_goals
    case round =>
      obtain ⟨p, q, rfl, rfl, hpq, hp, hq, ⟨⟨n, os⟩, rfl⟩⟩ := hrel
      by_cases h0 : q = 0
      · subst h0
        obtain rfl : p = g := by simpa using hpq
        have hb1 := tdiv_bd (g := p) hxy.1
        have hb2 := tdiv_bd (g := p) hxy.2
        have hne : ¬ ((p : Nat) : Int) = 0 := by omega
        have hne' : ¬ p = 0 := by omega
        clear hpq
        have w1 : IntKind.i64.wrap (Int.tdiv x p) = Int.tdiv x p := by unfold IntKind.wrap; simp [IntKind.bits, IntKind.signed]; omega
        have w2 : IntKind.i64.wrap (Int.tdiv y p) = Int.tdiv y p := by unfold IntKind.wrap; simp [IntKind.bits, IntKind.signed]; omega
        go_wp2_with fail
        refine wp_region_qas 9 [] [] hm (by kernel_rfl) (by simp only [List.take, List.filter, isQ]; rfl) (by simp only [List.drop]; rfl) ZOk.nil (by simp) ?_
        repeat (refine wpSteady_step (fun K hK => ?_); go_simp; first | (refine hK _ ?_; clear hK K) | (apply Exists.intro; refine ⟨fun _ => ?_, hK _ ?_⟩; (fail); clear hK K))
        refine wpSteady_nil ?_
        refine ⟨StOk.nil, LyOk.nil, ?_⟩
        rintro psq qsq Wq HWq HFq HBq
        obtain rfl : qsq = [] := HBq
        obtain rfl : psq = [] := HFq
        obtain ⟨⟨nq, osq⟩, rfl⟩ := HWq
        simp only [putAll, putB, Act.put, List.setIfInBounds_toArray, List.set_cons_succ, List.set_cons_zero]
        try dsimp only
        go_wp2
        refine bodyPost_ret (v := pt (Int.tdiv x p) (Int.tdiv y p)) (by simp [results, Try.results58, go_sem]) rfl ?_
        exact Ret.mk' rfl (by repeat (with_reducible first | exact Grew.refl _ | assumption | refine Grew.alloc ?_ _ | refine Grew.grow ?_ _ | refine Grew.dr ?_ _ | refine Grew.drewN ?_ _ | refine Grew.drew ?_ | refine Grew.trans ?_ (Hid.out (by assumption))))
      · have HPQ := hide hpq
        clear hpq
        have hne : ¬ (q : Int) = 0 := by omega
        have hpos : 0 < q := by omega
        have e3 : Int.tmod (p : Int) (q : Int) = ((p % q : Nat) : Int) := rfl
        have hlt : p % q < q := Nat.mod_lt _ (by omega)
        go_wp2_with fail
        refine wp_region_qas 6 [] [] hm (by kernel_rfl) (by simp only [List.take, List.filter, isQ]; rfl) (by simp only [List.drop]; rfl) ZOk.nil (by simp) ?_
        repeat (refine wpSteady_step (fun K hK => ?_); go_simp; first | (refine hK _ ?_; clear hK K) | (apply Exists.intro; refine ⟨fun _ => ?_, hK _ ?_⟩; (fail); clear hK K))
        refine wpSteady_nil ?_
        refine ⟨StOk.nil, LyOk.nil, ?_⟩
        rintro psq qsq Wq HWq HFq HBq
        obtain rfl : qsq = [] := HBq
        obtain rfl : psq = [] := HFq
        obtain ⟨⟨nq, osq⟩, rfl⟩ := HWq
        simp only [putAll, putB, Act.put, List.setIfInBounds_toArray, List.set_cons_succ, List.set_cons_zero]
        try dsimp only
        go_wp2_with fail
        go_roundw
        case rel => exact ⟨q, p % q, rfl, rfl, by rw [← HPQ.out, Nat.gcd_comm q, Nat.gcd_comm p]; exact (Nat.gcd_rec q p).symm, by omega, by omega, (by repeat (with_reducible first | exact Grew.refl _ | assumption | refine Grew.alloc ?_ _ | refine Grew.grow ?_ _ | refine Grew.dr ?_ _ | refine Grew.drewN ?_ _ | refine Grew.drew ?_ | refine Grew.trans ?_ (Hid.out (by assumption))))⟩
        case measure =>
          show ((p : Int) % (q : Int)).toNat < ((q : Int)).toNat
          rw [← Int.natCast_emod]
          omega
theorem rshort_v {x y : Int} (w : World) (h : dirOk x y = true) : Calls Try.prog 58 #[pt x y] w (Ret w (pt (shortP x y).1.1 (shortP x y).1.2)) := by
  have := rshort_any x y w h
  rwa [← shortP_val h] at this

theorem before_le (u v : Prim) : beforeW u.1.1 u.1.2 v.1.1 v.1.2 = !leP v u := by
  have hs := crs_swap u.1.1 u.1.2 v.1.1 v.1.2
  have hl := cmpw_le (a := v.1.1) (b := v.1.2) (c := u.1.1) (d := u.1.2)
  have e : u.1.1 * v.1.2 - u.1.2 * v.1.1 = crs u.1.1 u.1.2 v.1.1 v.1.2 := rfl
  have hb : leP v u = true ↔ cmpw v.1.1 v.1.2 u.1.1 u.1.2 ≤ 0 := by unfold leP cfP; exact decide_eq_true_iff
  rw [hl] at hb
  unfold beforeW
  rw [e]
  rw [hs] at hb
  cases h1 : upper u.1.1 u.1.2 <;> cases h2 : upper v.1.1 v.1.2 <;> rw [h1, h2] at hb <;> cases h3 : leP v u <;> rw [h3] at hb <;> simp at hb ⊢ <;> omega
theorem rBefore_p (u v : Prim) (r : Bool) (w : World) (h : leP v u = !r) : Calls Try.prog 59 #[pt u.1.1 u.1.2, pt v.1.1 v.1.2] w (Ret w (.bool r)) := by
  have hu := dir_bd (prim_dir u)
  have hv := dir_bd (prim_dir v)
  have := rBefore_any u.1.1 u.1.2 v.1.1 v.1.2 w hu.1 hu.2 hv.1 hv.2
  rwa [before_le, h, Bool.not_not] at this

/-- Where a direction belongs: all before are less, none behind. -/
def AtF (L : List Prim) (v : Prim) (k a : Nat) : Prop := a ≤ k ∧ ∀ j u, j < k → L[j]? = some u → (j < a ↔ leP v u = false)
theorem atF_step {L : List Prim} {v u : Prim} {k a : Nat} (hS : Srt L) (h : AtF L v k a) (hu : L[k]? = some u) : AtF L v (k + 1) (if leP v u = false then k + 1 else a) := by
  have hk := (List.getElem?_eq_some_iff.1 hu).1
  have hg := List.pairwise_iff_getElem.1 hS
  have hu' := (List.getElem?_eq_some_iff.1 hu).2
  cases hc : leP v u
  · refine ⟨by simp, fun j t hj ht => ?_⟩
    have htl := (List.getElem?_eq_some_iff.1 ht).1
    have ht' := (List.getElem?_eq_some_iff.1 ht).2
    simp only [if_true]
    refine ⟨fun _ => ?_, fun _ => hj⟩
    by_cases hjk : j = k
    · subst hjk; rw [hu] at ht; injection ht with ht; rw [← ht]; exact hc
    · have := hg j k htl hk (by omega)
      rw [ht', hu'] at this
      cases hvt : leP v t
      · rfl
      · have h9 := leP_trans hvt (lt_le this)
        rw [hc] at h9; cases h9
  · refine ⟨by have := h.1; simp; omega, fun j t hj ht => ?_⟩
    simp only [Bool.true_eq_false, if_false]
    by_cases hjk : j = k
    · subst hjk
      rw [hu] at ht; injection ht with ht
      rw [← ht, hc]
      have := h.1
      simp; omega
    · exact h.2 j t (by omega) ht
theorem ins_srt {L : List Prim} {v : Prim} {a : Nat} (hS : Srt L) (h : AtF L v L.length a) (hv : v ∉ L) : Srt (L.take a ++ v :: L.drop a) ∧ ∀ x, x ∈ L.take a ++ v :: L.drop a ↔ x ∈ L ∨ x = v := by
  have hm : ∀ x, x ∈ L.take a ++ v :: L.drop a ↔ x ∈ L ∨ x = v := fun x => by
    rw [List.mem_append, List.mem_cons]
    have : x ∈ L ↔ x ∈ L.take a ∨ x ∈ L.drop a := by rw [← List.mem_append, List.take_append_drop]
    rw [this]
    constructor
    · rintro (h | h | h)
      · exact .inl (.inl h)
      · exact .inr h
      · exact .inl (.inr h)
    · rintro ((h | h) | h)
      · exact .inl h
      · exact .inr (.inr h)
      · exact .inr (.inl h)
  refine ⟨?_, hm⟩
  have hS' : (L.take a ++ L.drop a).Pairwise (fun u v => leP v u = false) := by rw [List.take_append_drop]; exact hS
  obtain ⟨p1, p2, p3⟩ := List.pairwise_append.1 hS'
  have lo : ∀ u ∈ L.take a, leP v u = false := fun u hu => by
    obtain ⟨j, hj, rfl⟩ := List.getElem_of_mem hu
    have hj2 : j < a ∧ j < L.length := by simp at hj; omega
    rw [List.getElem_take]
    exact (h.2 j _ hj2.2 (List.getElem?_eq_getElem hj2.2)).1 hj2.1
  have hi : ∀ u ∈ L.drop a, leP u v = false := fun u hu => by
    obtain ⟨j, hj, e⟩ := List.getElem_of_mem hu
    have hj2 : a + j < L.length := by simp at hj; omega
    rw [List.getElem_drop] at e
    have h1 := (h.2 (a + j) u hj2 (by rw [← e]; exact List.getElem?_eq_getElem hj2))
    have h2 : leP v u = true := by
      cases hc : leP v u
      · exact absurd (h1.2 hc) (by omega)
      · rfl
    cases hc : leP u v
    · rfl
    · exact absurd (leP_anti h2 hc) fun e2 => hv (by rw [e2]; exact List.mem_of_mem_drop hu)
  exact List.pairwise_append.2 ⟨p1, List.pairwise_cons.2 ⟨hi, p2⟩, fun u hu t ht => by
    rcases List.mem_cons.1 ht with rfl | ht
    · exact lo u hu
    · exact p3 u hu t ht⟩
/-- What the first turns have become. -/
def SrtTo (ts : List (Int × Int)) (k : Nat) (L : List Prim) : Prop := Srt L ∧ L.length ≤ k ∧ ∀ u, u ∈ L ↔ ∃ t ∈ ts.take k, shortP t.1 t.2 = u
theorem srtTo_0 (ts : List (Int × Int)) : SrtTo ts 0 [] := ⟨List.Pairwise.nil, Nat.le_refl _, fun u => by simp⟩
theorem take_mem_succ {ts : List (Int × Int)} {k : Nat} {t : Int × Int} (ht : ts[k]? = some t) (x : Int × Int) : x ∈ ts.take (k + 1) ↔ x ∈ ts.take k ∨ x = t := by
  obtain ⟨h1, h2⟩ := List.getElem?_eq_some_iff.1 ht
  rw [List.take_succ_eq_append_getElem h1, h2, List.mem_append, List.mem_singleton]
theorem srtTo_known {ts : List (Int × Int)} {k : Nat} {L : List Prim} {t : Int × Int} (h : SrtTo ts k L) (ht : ts[k]? = some t) (hv : shortP t.1 t.2 ∈ L) : SrtTo ts (k + 1) L :=
  ⟨h.1, by have := h.2.1; omega, fun u => by
    rw [h.2.2 u]
    constructor
    · rintro ⟨x, hx, e⟩
      exact ⟨x, (take_mem_succ ht x).2 (.inl hx), e⟩
    · rintro ⟨x, hx, e⟩
      rcases (take_mem_succ ht x).1 hx with h1 | h1
      · exact ⟨x, h1, e⟩
      · subst h1
        rw [← h.2.2 u, ← e]
        exact hv⟩
theorem srtTo_new {ts : List (Int × Int)} {k a : Nat} {L : List Prim} {t : Int × Int} (h : SrtTo ts k L) (ht : ts[k]? = some t) (hv : shortP t.1 t.2 ∉ L) (ha : AtF L (shortP t.1 t.2) L.length a) : SrtTo ts (k + 1) (L.take a ++ shortP t.1 t.2 :: L.drop a) := by
  obtain ⟨s1, s2⟩ := ins_srt h.1 ha hv
  refine ⟨s1, ?_, fun u => ?_⟩
  · have h1 := h.2.1
    simp
    omega
  · rw [s2, h.2.2 u]
    constructor
    · rintro (⟨x, hx, e⟩ | e)
      · exact ⟨x, (take_mem_succ ht x).2 (.inl hx), e⟩
      · exact ⟨t, (take_mem_succ ht t).2 (.inr rfl), e.symm⟩
    · rintro ⟨x, hx, e⟩
      rcases (take_mem_succ ht x).1 hx with h1 | h1
      · exact .inl ⟨x, h1, e⟩
      · subst h1; exact .inr e.symm
theorem srtTo_all {ss : List Sec} {L : List Prim} (h : SrtTo (turnsOf ss) (turnsOf ss).length L) : L = allP ss :=
  srt_ext h.1 (all_srt ss) fun u => by
    rw [h.2.2 u, all_mem, List.take_length]
theorem enc_set {P : List (Int × Int)} {x : Int × Int} {j : Nat} (hj : j ≤ P.length) (a b : Int) : (((P.take j ++ x :: P.drop j).flatMap encD).set (j * 2) (.int .i64 a)).set (j * 2 + 1) (.int .i64 b) = (P.take j ++ (a, b) :: P.drop j).flatMap encD := by
  have hl : ((P.take j).flatMap encD).length = j * 2 := by
    have : ∀ Q : List (Int × Int), (Q.flatMap encD).length = Q.length * 2 := fun Q => by
      induction Q with
      | nil => rfl
      | cons q Q ih => rw [List.flatMap_cons, List.length_append, ih, encD_len, List.length_cons]; omega
    rw [this, List.length_take, Nat.min_eq_left hj]
  rw [List.flatMap_append, List.flatMap_append, List.flatMap_cons, List.flatMap_cons, List.set_append_right _ _ (by omega), List.set_append_right _ _ (by omega), hl]
  simp [encD]
theorem shift_step {P : List (Int × Int)} {p : Int × Int} {i : Nat} (h : P[i]? = some p) : P.take (i + 1) ++ p :: P.drop (i + 1) = P.take i ++ p :: P.drop i := by
  obtain ⟨h1, h2⟩ := List.getElem?_eq_some_iff.1 h
  rw [List.take_succ_eq_append_getElem h1, h2, List.append_assoc, List.drop_eq_getElem_cons h1, h2]
  rfl
theorem encP_encD (L : List Prim) : L.flatMap encP = (L.map (·.1)).flatMap encD := by
  rw [List.flatMap_map]
  rfl
end Go.Proofs.Ytgcgaplhaglejaa
