import Derived.Test.YtfeccolljfkejaaGreatDoorSecA
import Derived.Test.YtfeccolljfkejaaGreatDoorItX
import Derived.Test.YtfeccolljfkejaaGreatDoorCvX
import Derived.Test.YtfeccolljfkejaaGreatDoorPgX
/- Plain law: the angle order of directions (no program in sight). -/
set_option linter.unusedSimpArgs false
set_option linter.unusedVariables false
namespace Go.Proofs.YtfeccolljfkejaaGreatDoor
open Go.RowKit Go.Sort
theorem upper_iff {a b : Int} : upper a b = true ↔ (0 < b ∨ (b = 0 ∧ 0 < a)) := by simp [upper]
theorem low_neg {a b : Int} (h : upper a b = false) (h0 : a ≠ 0 ∨ b ≠ 0) : upper (-a) (-b) = true := by
 rw [upper_iff]
 have : ¬ (0 < b ∨ (b = 0 ∧ 0 < a)) := by rw [← upper_iff, h]; simp
 omega
theorem crs_neg (a b c d : Int) : crs (-a) (-b) (-c) (-d) = crs a b c d := by unfold crs; rw [Int.neg_mul_neg, Int.neg_mul_neg]
theorem crs_swap (a b c d : Int) : crs c d a b = - crs a b c d := by unfold crs; rw [Int.mul_comm c b, Int.mul_comm d a]; omega
theorem crs_id (a b c d e f : Int) : crs a b e f * d = crs c d e f * b + crs a b c d * f := by
 unfold crs
 simp only [Int.sub_mul]
 have e1 : a * f * d = a * d * f := by rw [Int.mul_assoc, Int.mul_comm f d, ← Int.mul_assoc]
 have e2 : b * e * d = d * e * b := by rw [Int.mul_comm b e, Int.mul_comm d e, Int.mul_assoc, Int.mul_assoc, Int.mul_comm b d]
 have e3 : c * f * b = b * c * f := by rw [Int.mul_comm b c, Int.mul_assoc, Int.mul_assoc, Int.mul_comm f b]
 omega
/-- Three directions of the upper half: the order goes on. -/
theorem crs_trans_up {a b c d e f : Int} (hu : upper a b = true) (hv : upper c d = true) (hw : upper e f = true) (h1 : 0 ≤ crs a b c d) (h2 : 0 ≤ crs c d e f) : 0 ≤ crs a b e f := by
 rw [upper_iff] at hu hv hw
 rcases hv with hd | ⟨rfl, hc⟩
 ·have h := crs_id a b c d e f
  have q1 : 0 ≤ crs c d e f * b := Int.mul_nonneg h2 (by omega)
  have q2 : 0 ≤ crs a b c d * f := Int.mul_nonneg h1 (by omega)
  rcases Int.lt_or_le (crs a b e f) 0 with hn | hn
  ·have := Int.mul_neg_of_neg_of_pos hn hd
   omega
  ·exact hn
 ·have hb : b = 0 := by
   rcases hu with hb | ⟨hb, _⟩
   ·unfold crs at h1
    have := Int.mul_pos hb hc
    simp at h1
    omega
   ·exact hb
  subst hb
  have ha : 0 < a := by omega
  have hf : 0 ≤ f := by omega
  have := Int.mul_nonneg (Int.le_of_lt ha) hf
  unfold crs
  simp
  exact this
theorem crs_trans {a b c d e f : Int} (ha : a ≠ 0 ∨ b ≠ 0) (hc : c ≠ 0 ∨ d ≠ 0) (he : e ≠ 0 ∨ f ≠ 0) (h1 : upper a b = upper c d) (h2 : upper c d = upper e f) (k1 : 0 ≤ crs a b c d) (k2 : 0 ≤ crs c d e f) : 0 ≤ crs a b e f := by
 cases hv : upper c d
 ·rw [hv] at h1 h2
  have := crs_trans_up (low_neg h1 ha) (low_neg hv hc) (low_neg h2.symm he) (by rw [crs_neg]; exact k1) (by rw [crs_neg]; exact k2)
  rwa [crs_neg] at this
 ·rw [hv] at h1 h2
  exact crs_trans_up h1 hv h2.symm k1 k2
theorem cmpw_le {a b c d : Int} : cmpw a b c d ≤ 0 ↔ (upper a b = true ∧ upper c d = false) ∨ (upper a b = upper c d ∧ 0 ≤ crs a b c d) := by
 unfold cmpw
 cases upper a b <;> cases upper c d <;> simp
 all_goals (split <;> (try split) <;> omega)
theorem cmpw_swap (a b c d : Int) : cmpw c d a b = - cmpw a b c d := by
 unfold cmpw
 rw [crs_swap a b c d]
 cases upper a b <;> cases upper c d <;> simp
 all_goals (split <;> split <;> (try split) <;> (try split) <;> omega)
theorem cmpw_trans {a b c d e f : Int} (ha : a ≠ 0 ∨ b ≠ 0) (hc : c ≠ 0 ∨ d ≠ 0) (he : e ≠ 0 ∨ f ≠ 0) (h1 : cmpw a b c d ≤ 0) (h2 : cmpw c d e f ≤ 0) : cmpw a b e f ≤ 0 := by
 rw [cmpw_le] at *
 rcases h1 with ⟨p1, p2⟩ | ⟨p1, p2⟩ <;> rcases h2 with ⟨q1, q2⟩ | ⟨q1, q2⟩
 ·rw [p2] at q1; cases q1
 ·exact .inl ⟨p1, by rw [← q1]; exact p2⟩
 ·exact .inl ⟨by rw [p1]; exact q1, q2⟩
 ·exact .inr ⟨by rw [p1, q1], crs_trans ha hc he p1 q1 p2 q2⟩
theorem cmpw_bd (a b c d : Int) : cmpw a b c d = -1 ∨ cmpw a b c d = 0 ∨ cmpw a b c d = 1 := by
 unfold cmpw
 split
 ·split <;> simp
 ·split
  ·simp
  ·split <;> simp
theorem cmpw_self (a b : Int) : cmpw a b a b = 0 := by
 have := cmpw_swap a b a b
 omega
theorem dir_ne {a b : Int} (h : dirOk a b = true) : a ≠ 0 ∨ b ≠ 0 := by simp [dirOk] at h; omega
end Go.Proofs.YtfeccolljfkejaaGreatDoor

/- The order of directions; which light holds a color of which, in plain words (PlainA, turned by program). -/
set_option linter.unusedSimpArgs false
set_option linter.unusedVariables false
namespace Go.Proofs.YtfeccolljfkejaaGreatDoor
open Go.RowKit Go.Sort
/-- Not both coordinates 0. -/
def NZ (v : Int × Int) : Prop := v.1 ≠ 0 ∨ v.2 ≠ 0
def cwv (u v : Int × Int) : Int := cmpw u.1 u.2 v.1 v.2
theorem cwv_swap (u v : Int × Int) : cwv v u = - cwv u v := cmpw_swap ..
theorem cwv_bd (u v : Int × Int) : cwv u v = -1 ∨ cwv u v = 0 ∨ cwv u v = 1 := cmpw_bd ..
theorem cwv_trans {u v w : Int × Int} (hu : NZ u) (hv : NZ v) (hw : NZ w) (h1 : cwv u v ≤ 0) (h2 : cwv v w ≤ 0) : cwv u w ≤ 0 := cmpw_trans hu hv hw h1 h2
theorem cwv_self (u : Int × Int) : cwv u u = 0 := cmpw_self ..
theorem nz_dir {x y : Int} (h : dirOk x y = true) : NZ (x, y) := dir_ne h
def Sec.fr (s : Sec) : Int × Int := (s.fx, s.fy)
def Sec.to (s : Sec) : Int × Int := (s.tx, s.ty)
def hs (s : Sec) (v : Int × Int) : Bool := s.has v.1 v.2
/-- All ends of a light's sectors are no zeros. -/
def NZs (ss : List Sec) : Prop := ∀ s ∈ ss, NZ s.fr ∧ NZ s.to
theorem nzs_of {ss : List Sec} (h : ∀ s ∈ ss, s.ok = true) : NZs ss := fun s hs => by
 have := h s hs
 simp only [Sec.ok, secOk, Bool.and_eq_true] at this
 exact ⟨nz_dir this.1.1.1, nz_dir this.1.1.2⟩
/-- The rank of a direction among some. -/
def rk (L : List (Int × Int)) (v : Int × Int) : Nat := (L.filter fun e => decide (cwv e v ≤ 0)).length
theorem filter_le {α : Type} {p q : α → Bool} : ∀ (l : List α), (∀ a ∈ l, p a = true → q a = true) → (l.filter p).length ≤ (l.filter q).length
 | [], _ => Nat.le_refl _
 | a :: l, h => by
  have ih := filter_le l fun b hb => h b (by simp [hb])
  have ha := h a (by simp)
  rw [List.filter_cons, List.filter_cons]
  cases hp : p a
  ·cases hq : q a <;> simp <;> omega
  ·rw [ha hp]
   simp
   omega
theorem filter_lt {α : Type} {p q : α → Bool} : ∀ (l : List α), (∀ a ∈ l, p a = true → q a = true) → (∃ a ∈ l, p a = false ∧ q a = true) → (l.filter p).length < (l.filter q).length
 | [], _, h => by obtain ⟨a, ha, _⟩ := h; cases ha
 | a :: l, h, hx => by
  have hle := filter_le l fun b hb => h b (by simp [hb])
  have ha := h a (by simp)
  rw [List.filter_cons, List.filter_cons]
  cases hp : p a
  ·cases hq : q a
   ·obtain ⟨b, hb, hpb, hqb⟩ := hx
    rcases List.mem_cons.1 hb with rfl | hb
    ·rw [hq] at hqb; cases hqb
    ·simpa using filter_lt l (fun b hb => h b (by simp [hb])) ⟨b, hb, hpb, hqb⟩
   ·simp
    omega
  ·rw [ha hp]
   obtain ⟨b, hb, hpb, hqb⟩ := hx
   rcases List.mem_cons.1 hb with rfl | hb
   ·rw [hp] at hpb; cases hpb
   ·have := filter_lt l (fun b hb => h b (by simp [hb])) ⟨b, hb, hpb, hqb⟩
    simpa using this
theorem rk_iff {L : List (Int × Int)} (hL : ∀ e ∈ L, NZ e) {u v : Int × Int} (hu : u ∈ L) (hv : v ∈ L) : cwv u v ≤ 0 ↔ rk L u ≤ rk L v := by
 constructor
 ·intro h
  refine filter_le L fun e he hp => ?_
  rw [decide_eq_true_eq] at hp ⊢
  exact cwv_trans (hL e he) (hL u hu) (hL v hv) hp h
 ·intro h
  rcases Int.lt_or_le 0 (cwv u v) with h1 | h1
  ·exfalso
   have h2 : cwv v u ≤ 0 := by rw [cwv_swap u v]; omega
   have : rk L v < rk L u := by
    refine filter_lt L (fun e he hp => ?_) ⟨u, hu, by simpa using h1, by rw [cwv_self]; rfl⟩
    rw [decide_eq_true_eq] at hp ⊢
    exact cwv_trans (hL e he) (hL v hv) (hL u hu) hp h2
   omega
  ·exact h1
theorem rk_cases {L : List (Int × Int)} (hL : ∀ e ∈ L, NZ e) {u v : Int × Int} (hu : u ∈ L) (hv : v ∈ L) : (cwv u v = -1 ∧ rk L u < rk L v) ∨ (cwv u v = 0 ∧ rk L u = rk L v) ∨ (cwv u v = 1 ∧ rk L v < rk L u) := by
 have h1 := rk_iff hL hu hv
 have h2 := rk_iff hL hv hu
 rw [cwv_swap u v] at h2
 rcases cwv_bd u v with h | h | h <;> rw [h] at h1 h2 <;> simp [h] at h1 h2 ⊢ <;> omega
end Go.Proofs.YtfeccolljfkejaaGreatDoor

/- The reference implementation of package sector: has, Valid. -/
set_option linter.unusedSimpArgs false
set_option linter.unusedVariables false
set_option maxHeartbeats 4000000
set_option maxRecDepth 100000
namespace Go.Proofs.YtfeccolljfkejaaGreatDoor
open Go.RowKit Go.Sort
attribute [local go_sem] Steady steadyUpon
attribute [local go_sem ↓] hs_dr lt_add_r lt_add_r2 lt_add_r3 lt_add_r4 lt_add_r5 lt_add_r6
attribute [local go_sem] cell?_gd frozen?_gd setCell_gd size_grow tape_grow cell?_grow' frozen?_grow' setCell_grow' grow_grow grow_dr grow_drew dr_dr dr_drew drew_dr dr_alloc dr_setCell dr_cell dr_frozen dr_tape dr_drawn
attribute [local irreducible] wpSteady
theorem rDirection_any (a b : Int) (w : World) : Calls Tryz.prog 208 #[pt a b] w (Ret w (.bool (dirOk a b))) := by
 go_enter Tryz.func208, Tryz.ntmps208
 go_wp2
 all_goals go_ret
 all_goals refine Ret.mk' (ret_bool ?_) gw
 all_goals (rw [Bool.eq_iff_iff]; simp [dirOk]; omega)
theorem rcross_any (a b c d : Int) (w : World) (ha : -4000000 ≤ a ∧ a ≤ 4000000) (hb : -4000000 ≤ b ∧ b ≤ 4000000) (hc : -4000000 ≤ c ∧ c ≤ 4000000) (hd : -4000000 ≤ d ∧ d ≤ 4000000) :
  Calls Tryz.prog 210 #[pt a b, pt c d] w (Ret w (.int .i64 (a * d - b * c))) := by
 have h1 : -16000000000000 ≤ a * d ∧ a * d ≤ 16000000000000 := mul_bd 4000000 4000000 ha hd
 have h2 : -16000000000000 ≤ b * c ∧ b * c ≤ 16000000000000 := mul_bd 4000000 4000000 hb hc
 go_enter Tryz.func210, Tryz.ntmps210
 go_wp2
 go_ret
 exact Ret.mk' rfl gw
def alike (a b c d : Int) : Bool := decide (a * d - b * c = 0 ∧ 0 < a * c + b * d)
theorem rAlike_any (a b c d : Int) (w : World) (ha : -4000000 ≤ a ∧ a ≤ 4000000) (hb : -4000000 ≤ b ∧ b ≤ 4000000) (hc : -4000000 ≤ c ∧ c ≤ 4000000) (hd : -4000000 ≤ d ∧ d ≤ 4000000) :
  Calls Tryz.prog 209 #[pt a b, pt c d] w (Ret w (.bool (alike a b c d))) := by
 have h1 : -16000000000000 ≤ a * c ∧ a * c ≤ 16000000000000 := mul_bd 4000000 4000000 ha hc
 have h2 : -16000000000000 ≤ b * d ∧ b * d ≤ 16000000000000 := mul_bd 4000000 4000000 hb hd
 go_enter Tryz.func209, Tryz.ntmps209
 go_wp2_with (go_at_call 210; refine crv (rcross_any _ _ _ _ _ ha hb hc hd) fun _ _ => ?_; dsimp only)
 all_goals go_ret
 all_goals refine Ret.mk' (ret_bool ?_) gw
 all_goals (rw [Bool.eq_iff_iff]; simp [alike]; omega)
theorem rvalid_any (a b c d e f : Int) (w : World) :
  Calls Tryz.prog 177 #[sec a b c d e f] w (Ret w (.bool (secOk a b c d e f))) := by
 have hm := hmix
 go_enter Tryz.func177, Tryz.ntmps177
 go_wp2_with (go_at_call 208; refine crv (rDirection_any _ _ _) fun _ _ => ?_; dsimp only)
 all_goals go_ret
 all_goals refine Ret.mk' (ret_bool ?_) gw
 all_goals (first | (simp [secOk, *]; done) | (simp [secOk, *]; omega))
def hasR (a b c d x y : Int) : Bool :=
 if alike a b c d || alike a b x y then true else if alike c d x y then false else
 if 0 < a * y - b * x then (decide (0 < x * d - y * c) || decide (a * d - b * c ≤ 0)) else (decide (0 < x * d - y * c) && decide (a * d - b * c < 0))
theorem rhas_any (a b c d x y : Int) (w : World) (ha : -4000000 ≤ a ∧ a ≤ 4000000) (hb : -4000000 ≤ b ∧ b ≤ 4000000) (hc : -4000000 ≤ c ∧ c ≤ 4000000) (hd : -4000000 ≤ d ∧ d ≤ 4000000)
  (hx : -4000000 ≤ x ∧ x ≤ 4000000) (hy : -4000000 ≤ y ∧ y ≤ 4000000) :
  Calls Tryz.prog 178 #[pt a b, pt c d, pt x y] w (Ret w (.bool (hasR a b c d x y))) := by
 have hm := hmix
 go_enter Tryz.func178, Tryz.ntmps178
 go_wp2_with (first | (go_at_call 209; refine crv (rAlike_any _ _ _ _ _ (by assumption) (by assumption) (by assumption) (by assumption)) fun _ _ => ?_; dsimp only) | (go_at_call 210; refine crv (rcross_any _ _ _ _ _ (by assumption) (by assumption) (by assumption) (by assumption)) fun _ _ => ?_; dsimp only))
 all_goals go_ret
 all_goals refine Ret.mk' (ret_bool ?_) gw
 all_goals
  unfold hasR
  generalize alike a b c d = q1 at *
  generalize alike a b x y = q2 at *
  generalize alike c d x y = q3 at *
  generalize a * y = p1 at *
  generalize b * x = p2 at *
  generalize x * d = p3 at *
  generalize y * c = p4 at *
  generalize a * d = p5 at *
  generalize b * c = p6 at *
  first
   | (simp [*]; done)
   | (simp [*]; omega)
   | (cases q1 <;> cases q2 <;> cases q3 <;> simp at * <;> (first | done | omega | (rw [if_neg (by omega)]; simp; omega) | (rw [if_pos (by omega)]; simp; omega) | (rw [if_neg (by omega)]; omega) | (rw [if_pos (by omega)]; omega)))
theorem dot_up {a b c d : Int} (hu : upper a b = true) (hv : upper c d = true) (h : crs a b c d = 0) : 0 < a * c + b * d := by
 rw [upper_iff] at hu hv
 have h' : a * d = b * c := by unfold crs at h; omega
 rcases hu with hb | ⟨rfl, ha⟩ <;> rcases hv with hd | ⟨rfl, hc⟩
 ·have h1 : a * c * d = b * (c * c) := by
   rw [Int.mul_right_comm, h', Int.mul_assoc]
  have h2 : 0 ≤ b * (c * c) := Int.mul_nonneg (by omega) (by rw [← Int.natAbs_mul_self' c]; exact Int.natCast_nonneg _)
  have h3 : 0 < b * d := Int.mul_pos hb hd
  have h4 : 0 ≤ a * c := by
   rcases Int.lt_or_le (a * c) 0 with h5 | h5
   ·have := Int.mul_neg_of_neg_of_pos h5 hd
    omega
   ·exact h5
  omega
 ·exfalso
  have := Int.mul_pos hb hc
  simp at h'
  omega
 ·exfalso
  have := Int.mul_pos ha hd
  simp at h'
  omega
 ·have := Int.mul_pos ha hc
  simpa using this
theorem crs_negl (a b c d : Int) : crs (-a) (-b) c d = - crs a b c d := by unfold crs; rw [Int.neg_mul, Int.neg_mul]; omega
theorem crs_negr (a b c d : Int) : crs a b (-c) (-d) = - crs a b c d := by unfold crs; rw [Int.mul_neg, Int.mul_neg]; omega
theorem alike_cw {a b c d : Int} (ha : a ≠ 0 ∨ b ≠ 0) (hc : c ≠ 0 ∨ d ≠ 0) : alike a b c d = (cmpw a b c d == 0) := by
 have hcw : (cmpw a b c d == 0) = decide (upper a b = upper c d ∧ crs a b c d = 0) := by
  unfold cmpw
  cases h1 : upper a b <;> cases h2 : upper c d <;> simp
  all_goals (split <;> (try split) <;> simp <;> omega)
 rw [hcw, Bool.eq_iff_iff]
 unfold alike
 simp only [decide_eq_true_eq]
 have e : a * d - b * c = crs a b c d := rfl
 rw [e]
 constructor
 ·rintro ⟨h1, h2⟩
  refine ⟨?_, h1⟩
  cases hu : upper a b <;> cases hv : upper c d
  ·rfl
  ·exfalso
   have := dot_up (low_neg hu ha) hv (by rw [crs_negl, h1]; rfl)
   rw [Int.neg_mul, Int.neg_mul] at this
   omega
  ·exfalso
   have := dot_up hu (low_neg hv hc) (by rw [crs_negr, h1]; rfl)
   rw [Int.mul_neg, Int.mul_neg] at this
   omega
  ·rfl
 ·rintro ⟨h1, h2⟩
  refine ⟨h2, ?_⟩
  cases hu : upper a b
  ·rw [hu] at h1
   have := dot_up (low_neg hu ha) (low_neg h1.symm hc) (by rw [crs_neg]; exact h2)
   rwa [Int.neg_mul_neg, Int.neg_mul_neg] at this
  ·rw [hu] at h1
   exact dot_up hu h1.symm h2
def nrm (v : Int × Int) : Int × Int := if upper v.1 v.2 = true then v else (-v.1, -v.2)
theorem nrm_up {v : Int × Int} (h : NZ v) : upper (nrm v).1 (nrm v).2 = true := by
 unfold nrm
 split
 ·assumption
 ·rename_i h1
  exact low_neg (by simpa using h1) h
theorem up_nz {v : Int × Int} (h : upper v.1 v.2 = true) : NZ v := by
 rw [upper_iff] at h
 unfold NZ
 omega
theorem cwv_up {u v : Int × Int} (hu : upper u.1 u.2 = true) (hv : upper v.1 v.2 = true) : cwv u v = if 0 < crs u.1 u.2 v.1 v.2 then -1 else if crs u.1 u.2 v.1 v.2 < 0 then 1 else 0 := by
 unfold cwv cmpw
 rw [hu, hv]
 rfl
/-- The sign of a cross product by ranks of the directions turned up. -/
theorem crs_rk {L : List (Int × Int)} (hL : ∀ e ∈ L, NZ e) {u v : Int × Int} (hu : NZ u) (hv : NZ v) (mu : nrm u ∈ L) (mv : nrm v ∈ L) :
  (upper u.1 u.2 = upper v.1 v.2 → (0 < crs u.1 u.2 v.1 v.2 ↔ rk L (nrm u) < rk L (nrm v)) ∧ (crs u.1 u.2 v.1 v.2 < 0 ↔ rk L (nrm v) < rk L (nrm u))) ∧
  (upper u.1 u.2 ≠ upper v.1 v.2 → (crs u.1 u.2 v.1 v.2 < 0 ↔ rk L (nrm u) < rk L (nrm v)) ∧ (0 < crs u.1 u.2 v.1 v.2 ↔ rk L (nrm v) < rk L (nrm u))) := by
 have h1 := cwv_up (nrm_up hu) (nrm_up hv)
 have h2 := rk_cases hL mu mv
 have key : (0 < crs (nrm u).1 (nrm u).2 (nrm v).1 (nrm v).2 ↔ rk L (nrm u) < rk L (nrm v)) ∧ (crs (nrm u).1 (nrm u).2 (nrm v).1 (nrm v).2 < 0 ↔ rk L (nrm v) < rk L (nrm u)) := by
  rw [h1] at h2
  split at h2
  ·omega
  ·split at h2 <;> omega
 have e : crs (nrm u).1 (nrm u).2 (nrm v).1 (nrm v).2 = if upper u.1 u.2 = upper v.1 v.2 then crs u.1 u.2 v.1 v.2 else - crs u.1 u.2 v.1 v.2 := by
  unfold nrm
  cases a : upper u.1 u.2 <;> cases b : upper v.1 v.2 <;> simp [crs_neg, crs_negl, crs_negr]
 constructor
 ·intro h
  rw [if_pos h] at e
  rw [e] at key
  exact key
 ·intro h
  rw [if_neg h] at e
  rw [e] at key
  omega
theorem has_eq {f t v : Int × Int} (hf : NZ f) (ht : NZ t) (hv : NZ v) : hasw f.1 f.2 t.1 t.2 v.1 v.2 = hasR f.1 f.2 t.1 t.2 v.1 v.2 := by
 have hL : ∀ e ∈ [nrm f, nrm t, nrm v], NZ e := fun e he => by
  simp at he
  rcases he with rfl | rfl | rfl
  ·exact up_nz (nrm_up hf)
  ·exact up_nz (nrm_up ht)
  ·exact up_nz (nrm_up hv)
 have k1 := crs_rk hL hf ht (by simp) (by simp)
 have k2 := crs_rk hL hf hv (by simp) (by simp)
 have k3 := crs_rk hL ht hv (by simp) (by simp)
 have e1 : f.1 * v.2 - f.2 * v.1 = crs f.1 f.2 v.1 v.2 := rfl
 have e2 : v.1 * t.2 - v.2 * t.1 = - crs t.1 t.2 v.1 v.2 := crs_swap t.1 t.2 v.1 v.2
 have e3 : f.1 * t.2 - f.2 * t.1 = crs f.1 f.2 t.1 t.2 := rfl
 unfold hasw hasR
 rw [alike_cw hf ht, alike_cw hf hv, alike_cw ht hv, e1, e2, e3]
 generalize rk [nrm f, nrm t, nrm v] (nrm f) = p at *
 generalize rk [nrm f, nrm t, nrm v] (nrm t) = q at *
 generalize rk [nrm f, nrm t, nrm v] (nrm v) = r at *
 unfold cmpw
 generalize crs f.1 f.2 t.1 t.2 = A at *
 generalize crs f.1 f.2 v.1 v.2 = B at *
 generalize crs t.1 t.2 v.1 v.2 = C at *
 clear e1 e2 e3 hL
 cases a : upper f.1 f.2 <;> cases b : upper t.1 t.2 <;> cases c : upper v.1 v.2 <;> simp only [a, b, c] at k1 k2 k3 ⊢ <;> simp at k1 k2 k3 ⊢
 all_goals
  obtain ⟨k11, k12⟩ := k1
  obtain ⟨k21, k22⟩ := k2
  obtain ⟨k31, k32⟩ := k3
  by_cases a1 : 0 < A <;> by_cases a2 : A < 0 <;> by_cases b1 : 0 < B <;> by_cases b2 : B < 0 <;> by_cases c1 : 0 < C <;> by_cases c2 : C < 0 <;> first | (exfalso; omega) | (simp [a1, a2, b1, b2, c1, c2]; done) | (simp [a1, a2, b1, b2, c1, c2]; omega)
theorem hs_hasS {s : Sec} (h1 : NZ s.fr) (h2 : NZ s.to) {v : Int × Int} (hv : NZ v) : hs s v = hasR s.fx s.fy s.tx s.ty v.1 v.2 := has_eq h1 h2 hv
theorem rhas_v {a b c d x y : Int} (r : Bool) (w : World) (h : hasR a b c d x y = r) (ha : -4000000 ≤ a ∧ a ≤ 4000000) (hb : -4000000 ≤ b ∧ b ≤ 4000000) (hc : -4000000 ≤ c ∧ c ≤ 4000000) (hd : -4000000 ≤ d ∧ d ≤ 4000000)
  (hx : -4000000 ≤ x ∧ x ≤ 4000000) (hy : -4000000 ≤ y ∧ y ≤ 4000000) :
  Calls Tryz.prog 178 #[pt a b, pt c d, pt x y] w (Ret w (.bool r)) := by
 have := rhas_any a b c d x y w ha hb hc hd hx hy
 rwa [h] at this
theorem clash_R {s t : Sec} (hs' : s.ok = true) (ht : t.ok = true) : (hasR s.fx s.fy s.tx s.ty t.fx t.fy || hasR t.fx t.fy t.tx t.ty s.fx s.fy) = clash s t := by
 have ns := nzs_of (ss := [s]) (by simpa using hs') s (by simp)
 have nt := nzs_of (ss := [t]) (by simpa using ht) t (by simp)
 have e1 := hs_hasS ns.1 ns.2 nt.1
 have e2 := hs_hasS nt.1 nt.2 ns.1
 show _ = (hs s t.fr || hs t s.fr)
 rw [e1, e2]
 rfl
theorem s5Valid_any (ss : List Sec) (A : Option Addr) (c : Nat) (w : World) (hr : Rd w w.heap.size 6 A (ss.map Sec.cells)) (hc : ss.length ≤ 100000000000000) :
  Calls Tryz.prog 129 #[.slice A ss.length c] w (Ret w (.bool (LValid ss))) := by
 have hm := hmix
 by_cases h12 : 12 < ss.length
 ·go_enter Tryz.func129, Tryz.ntmps129
  go_wp2_with fail
  go_ret
  exact Ret.mk' (ret_bool (LValid_not fun h => by have := h.2; omega)) gw
 ·go_enter Tryz.func129, Tryz.ntmps129
  go_wp2_with fail
  go_loopw [3] (fun i wr => ∃ k : Nat, k ≤ ss.length ∧ i = .int .i64 k ∧ Grew w wr ∧ GoodTo ss k) (fun i _ => ss.length - (intOf i).toNat)
  case atStart => exact ⟨0, by omega, rfl, gw, fun i _ hi => by omega⟩
  case round =>
   obtain ⟨k, hk, rfl, hg, hgood⟩ := hrel
   have HG := hide hgood
   clear hgood
   have HW := hide hg
   clear hg
   by_cases hlt : k < ss.length
   ·obtain ⟨s, hs'⟩ : ∃ s, ss[k]? = some s := ⟨_, List.getElem?_eq_getElem hlt⟩
    obtain ⟨b, off, hA, hb, h0, h1, h2, h3, h4, h5⟩ := secAt (hr.up HW.out) hs'
    have HS := hide hs'
    clear hs'
    have hix := idx_run (cap := c) Tryz.underlying45 Tryz.sizeOf100 hA.out hlt
    cases hok : Sec.ok s
    ·have k1 := hide (show ∀ W, Calls Tryz.prog 177 #[sec s.fx s.fy s.tx s.ty s.col s.rng] W (Ret W (.bool false)) from fun W => by have := rvalid_any s.fx s.fy s.tx s.ty s.col s.rng W; rwa [show secOk s.fx s.fy s.tx s.ty s.col s.rng = false from hok] at this)
     have HO := hide hok
     clear hok
     go_wp2_with (go_at_call 177; with_reducible refine crv (k1.out _) fun _ _ => ?_; dsimp only)
     go_ret
     exact Ret.mk' (ret_bool (lv_no1 HS.out (by rw [HO.out]; simp))) (HW.out.trans gw)
    ·have k1 := hide (show ∀ W, Calls Tryz.prog 177 #[sec s.fx s.fy s.tx s.ty s.col s.rng] W (Ret W (.bool true)) from fun W => by have := rvalid_any s.fx s.fy s.tx s.ty s.col s.rng W; rwa [show secOk s.fx s.fy s.tx s.ty s.col s.rng = true from hok] at this)
     have hbd := sok_bd hok
     have HO := hide hok
     clear hok
     go_wp2_with (go_at_call 177; with_reducible refine crv (k1.out _) fun _ _ => ?_; dsimp only)
     clear h0 h1 h2 h3 h4 h5 hix
     go_loopw [5] (fun i wi => ∃ j : Nat, j ≤ k ∧ i = .int .i64 j ∧ Grew wr wi ∧ GoodAt ss s j) (fun i _ => k - (intOf i).toNat)
     case atStart => exact ⟨0, by omega, rfl, gw, fun i _ hi => by omega⟩
     case round =>
      obtain ⟨j, hj, rfl, hg, hgood⟩ := hrel
      have HG2 := hide hgood
      clear hgood
      have HW2 := hide hg
      clear hg
      by_cases hjt : j < k
      ·obtain ⟨t, ht⟩ : ∃ t, ss[j]? = some t := ⟨_, List.getElem?_eq_getElem (by omega)⟩
       have hjl : j < ss.length := by omega
       obtain ⟨b, off, hA, hb, h0, h1, h2, h3, h4, h5⟩ := secAt ((hr.up HW.out).up HW2.out) HS.out
       obtain ⟨b', off', hA', hb', g0, g1, g2, g3, g4, g5⟩ := secAt ((hr.up HW.out).up HW2.out) ht
       have hix := idx_run (cap := c) Tryz.underlying45 Tryz.sizeOf100 hA.out hlt
       have hix2 := idx_run (cap := c) Tryz.underlying45 Tryz.sizeOf100 hA'.out hjl
       have tok := (HG.out j t hjt ht).1
       have tbd := sok_bd tok
       have HT := hide ht
       have hcl := clash_R HO.out tok
       clear ht tok
       cases hc1 : hasR s.fx s.fy s.tx s.ty t.fx t.fy
       ·cases hc2 : hasR t.fx t.fy t.tx t.ty s.fx s.fy
        ·have q1 := hide (fun W => rhas_v false W hc1 hbd.1 hbd.2.1 hbd.2.2.1 hbd.2.2.2 tbd.1 tbd.2.1)
         have q2 := hide (fun W => rhas_v false W hc2 tbd.1 tbd.2.1 tbd.2.2.1 tbd.2.2.2 hbd.1 hbd.2.1)
         rw [hc1, hc2] at hcl
         have HCL := hide hcl
         clear hcl hc1 hc2
         go_wp2_with fail
         refine wp_region_qas 34 [] [] hm (h := ?_)
         repeat (refine wpSteady_step (fun K hK => ?_); go_simp; first | (refine hK _ ?_; clear hK K) | (apply Exists.intro; refine ⟨fun _ => ?_, hK _ ?_⟩; (go_at_call 178; first | with_reducible exact q1.out _ | with_reducible exact q2.out _); clear hK K))
         refine rq0 fun nq osq => ?_
         try simp only [Act.put, setA]
         try dsimp only
         go_wp2_with fail
         go_roundw
         case rel => exact ⟨j + 1, by omega, by go_num, HW2.out.trans gw, goodAt_step HG2.out HT.out HCL.out.symm⟩
         case measure => simp [intOf]; omega
        ·have q1 := hide (fun W => rhas_v false W hc1 hbd.1 hbd.2.1 hbd.2.2.1 hbd.2.2.2 tbd.1 tbd.2.1)
         have q2 := hide (fun W => rhas_v true W hc2 tbd.1 tbd.2.1 tbd.2.2.1 tbd.2.2.2 hbd.1 hbd.2.1)
         rw [hc1, hc2] at hcl
         have HCL := hide hcl
         clear hcl hc1 hc2
         go_wp2_with fail
         refine wp_region_qas 34 [] [] hm (h := ?_)
         repeat (refine wpSteady_step (fun K hK => ?_); go_simp; first | (refine hK _ ?_; clear hK K) | (apply Exists.intro; refine ⟨fun _ => ?_, hK _ ?_⟩; (go_at_call 178; first | with_reducible exact q1.out _ | with_reducible exact q2.out _); clear hK K))
         refine rq0 fun nq osq => ?_
         try simp only [Act.put, setA]
         try dsimp only
         go_wp2_with fail
         go_ret
         exact Ret.mk' (ret_bool (lv_no2 HS.out HT.out hjt HCL.out.symm)) ((HW.out.trans HW2.out).trans gw)
       ·have q1 := hide (fun W => rhas_v true W hc1 hbd.1 hbd.2.1 hbd.2.2.1 hbd.2.2.2 tbd.1 tbd.2.1)
        rw [hc1] at hcl
        have HCL := hide hcl
        clear hcl hc1
        go_wp2_with fail
        refine wp_region_qas 34 [] [] hm (h := ?_)
        repeat (refine wpSteady_step (fun K hK => ?_); go_simp; first | (refine hK _ ?_; clear hK K) | (apply Exists.intro; refine ⟨fun _ => ?_, hK _ ?_⟩; (go_at_call 178; with_reducible exact q1.out _); clear hK K))
        refine rq0 fun nq osq => ?_
        try simp only [Act.put, setA]
        try dsimp only
        go_wp2_with fail
        go_ret
        exact Ret.mk' (ret_bool (lv_no2 HS.out HT.out hjt HCL.out.symm)) ((HW.out.trans HW2.out).trans gw)
      ·obtain rfl : j = k := by omega
       go_wp2_with fail
       go_roundw
       case rel => exact ⟨j + 1, by omega, by go_num, HW.out.trans HW2.out, good_step HG.out HS.out HO.out HG2.out⟩
       case measure => simp [intOf]; omega
   ·obtain rfl : k = ss.length := by omega
    go_wp2_with fail
    go_ret
    refine Ret.mk' (ret_bool ?_) HW.out
    symm
    rw [LValid_iff]
    exact ⟨HG.out, by omega⟩
theorem s5Valid_v (ss : List Sec) (A : Option Addr) (c : Nat) (r : Bool) (w : World) (hr : Rd w w.heap.size 6 A (ss.map Sec.cells)) (hc : ss.length ≤ 100000000000000) (h : LValid ss = r) :
  Calls Tryz.prog 129 #[.slice A ss.length c] w (Ret w (.bool r)) := by
 have := s5Valid_any ss A c w hr hc
 rwa [h] at this
end Go.Proofs.YtfeccolljfkejaaGreatDoor

/- The reference implementation of package feature: Valid. -/
set_option linter.unusedSimpArgs false
set_option linter.unusedVariables false
set_option maxHeartbeats 8000000
set_option maxRecDepth 100000
namespace Go.Proofs.YtfeccolljfkejaaGreatDoor
open Go.RowKit Go.Sort
attribute [local go_sem] Steady steadyUpon
attribute [local go_sem ↓] hs_dr lt_add_r lt_add_r2 lt_add_r3 lt_add_r4 lt_add_r5 lt_add_r6
attribute [local go_sem] cell?_gd frozen?_gd setCell_gd size_grow tape_grow cell?_grow' frozen?_grow' setCell_grow' grow_grow grow_dr grow_drew dr_dr dr_drew drew_dr dr_alloc dr_setCell dr_cell dr_frozen dr_tape dr_drawn
attribute [local irreducible] wpSteady
theorem v7Disc_v (k : Int) (r : Bool) (w : World) (h : isDisc k = r) : Calls Tryz.prog 102 #[.int .i64 k] w (Ret w (.bool r)) := by
 subst h
 have hcase : k = 1 ∨ (k ≠ 1 ∧ k = 2) ∨ (k ≠ 1 ∧ k ≠ 2) := by omega
 rcases hcase with rfl | ⟨_, rfl⟩ | ⟨h1, h2⟩
 ·go_enter Tryz.func102, Tryz.ntmps102
  go_wp2_with fail
  go_ret
  exact Ret.mk' rfl gw
 ·go_enter Tryz.func102, Tryz.ntmps102
  go_wp2_with fail
  go_ret
  exact Ret.mk' rfl gw
 ·have g1 : (k == 1) = false := by simpa using h1
  have g2 : (k == 2) = false := by simpa using h2
  go_enter Tryz.func102, Tryz.ntmps102
  go_wp2_with fail
  go_ret
  exact Ret.mk' (ret_bool (by unfold isDisc; rw [Bool.eq_iff_iff]; simp [h1, h2])) gw
theorem v7Poly_v (k : Int) (r : Bool) (w : World) (h : isArea k = r) : Calls Tryz.prog 103 #[.int .i64 k] w (Ret w (.bool r)) := by
 subst h
 have hcase : k = 3 ∨ (k ≠ 3) := by omega
 rcases hcase with rfl | h1
 ·go_enter Tryz.func103, Tryz.ntmps103
  go_wp2_with fail
  go_ret
  exact Ret.mk' rfl gw
 ·have g1 : (k == 3) = false := by simpa using h1
  go_enter Tryz.func103, Tryz.ntmps103
  go_wp2_with fail
  go_ret
  exact Ret.mk' (ret_bool (by unfold isArea; rw [Bool.eq_iff_iff]; simp [h1])) gw
def rmOk (x n : Int) : Bool := decide (-1000000 ≤ x - n ∧ x + n ≤ 1000000)
theorem v7Room_v (x n : Int) (r : Bool) (w : World) (hp : -1000000 ≤ x ∧ x ≤ 1000000) (hn : 0 ≤ n ∧ n ≤ 100000) (h : rmOk x n = r) :
  Calls Tryz.prog 127 #[.int .i64 x, .int .i64 n] w (Ret w (.bool r)) := by
 subst h
 go_enter Tryz.func127, Tryz.ntmps127
 go_wp2
 all_goals go_ret
 all_goals refine Ret.mk' (ret_bool ?_) gw
 all_goals (rw [Bool.eq_iff_iff]; simp [rmOk]; try omega)
theorem room_two {x y n : Int} (hp : plOk x y = true) (hn : 0 ≤ n ∧ n ≤ 100000) : (rmOk x n && rmOk y n) = roomOk x y n := by
 have := pl_bd hp
 unfold rmOk roomOk plOk
 rw [← Bool.decide_and, ← Bool.decide_and]
 exact decide_eq_decide.2 ⟨fun h => by omega, fun h => by omega⟩
section
variable (id kind x y rad : Int) (aA : Option Addr) (na ac : Nat) (dep sym : Int) (sA : Option Addr) (ns sc : Nat) (o1 o2 o3 o4 o5 r : Bool) (w : World)
 (K1 : Hid (∀ W, Calls Tryz.prog 126 #[pt x y] W (Ret W (.bool o1))))
 (K2 : Hid (o1 = true → ∀ W, Calls Tryz.prog 127 #[.int .i64 x, .int .i64 rad] W (Ret W (.bool o2))))
 (K5 : Hid (o1 = true → ∀ W, Calls Tryz.prog 127 #[.int .i64 y, .int .i64 rad] W (Ret W (.bool o5))))
 (K3 : Hid (∀ W, Grew w W → Calls Tryz.prog 128 #[.slice aA na ac] W (Ret W (.bool o3))))
 (K4 : Hid (∀ W, Grew w W → Calls Tryz.prog 129 #[.slice sA ns sc] W (Ret W (.bool o4))))
 (b : (1 ≤ id ∧ id ≤ 100000) ∧ (0 ≤ sym ∧ sym ≤ 999) ∧ (0 ≤ dep ∧ dep ≤ 100000) ∧ (0 ≤ rad ∧ rad ≤ 100000))
include K1 K2 K5 b
theorem v7_disc (hk : kind = 1 ∨ kind = 2 ∨ kind = 5) (h : (o1 && ((o2 && o5) && (decide (na = 0) && decide (ns = 0)))) = r) :
  Calls Tryz.prog 95 #[.agg #[.int .i64 id, .int .i64 kind, .int .i64 x, .int .i64 y, .int .i64 rad, .slice aA na ac, .int .i64 dep, .int .i64 sym, .slice sA ns sc]] w (Ret w (.bool r)) := by
 obtain ⟨⟨b1, b2⟩, ⟨b3, b4⟩, ⟨b5, b6⟩, b7, b8⟩ := b
 have n1 : ¬ id < 1 := by omega
 have n2 : ¬ 100000 < id := by omega
 have n3 : ¬ sym < 0 := by omega
 have n4 : ¬ 999 < sym := by omega
 have n5 : ¬ dep < 0 := by omega
 have n6 : ¬ 100000 < dep := by omega
 have n7 : ¬ rad < 0 := by omega
 have n8 : ¬ 100000 < rad := by omega
 have kd1 := hide (fun W => v7Disc_v kind true W (decide_eq_true hk))
 clear hk
 have hcase : o1 = false ∨ (o1 = true ∧ o2 = false) ∨ (o1 = true ∧ o2 = true ∧ o5 = false) ∨ (o1 = true ∧ o2 = true ∧ o5 = true ∧ na ≠ 0) ∨ (o1 = true ∧ o2 = true ∧ o5 = true ∧ na = 0 ∧ ns ≠ 0) ∨ (o1 = true ∧ o2 = true ∧ o5 = true ∧ na = 0 ∧ ns = 0) := by
  cases o1 <;> cases o2 <;> cases o5 <;> simp; omega
 rcases hcase with rfl | ⟨rfl, rfl⟩ | ⟨rfl, rfl, rfl⟩ | ⟨rfl, rfl, rfl, h3⟩ | ⟨rfl, rfl, rfl, rfl, h3⟩ | ⟨rfl, rfl, rfl, rfl, rfl⟩
 all_goals
  first | (simp [h3] at h; subst h) | (simp at h; subst h)
  have k2 := hide (K2.out)
  have k5 := hide (K5.out)
  clear K2 K5
  try (have kr := hide (k2.out rfl))
  try (have ks := hide (k5.out rfl))
  clear k2 k5
  go_enter Tryz.func95, Tryz.ntmps95
  go_wp2_with (first | (go_at_call 102; with_reducible refine crv (kd1.out _) fun _ _ => ?_; dsimp only) | (go_at_call 126; with_reducible refine crv (K1.out _) fun _ _ => ?_; dsimp only) | (go_at_call 127; with_reducible refine crv (kr.out _) fun _ _ => ?_; dsimp only) | (go_at_call 127; with_reducible refine crv (ks.out _) fun _ _ => ?_; dsimp only))
  go_ret
  first | exact Ret.mk' rfl gw | exact Ret.mk' (by simp [h3]) gw
omit K1 K2 K5 in
include K3 b in
theorem v7_area (hk : kind = 3 ∨ kind = 6) (h : (o3 && (decide (x = 0 ∧ y = 0) && (decide (rad = 0) && (decide (ns = 0) && decide (kind = 3 ∨ dep = 0))))) = r) :
  Calls Tryz.prog 95 #[.agg #[.int .i64 id, .int .i64 kind, .int .i64 x, .int .i64 y, .int .i64 rad, .slice aA na ac, .int .i64 dep, .int .i64 sym, .slice sA ns sc]] w (Ret w (.bool r)) := by
 obtain ⟨⟨b1, b2⟩, ⟨b3, b4⟩, ⟨b5, b6⟩, b7, b8⟩ := b
 have n1 : ¬ id < 1 := by omega
 have n2 : ¬ 100000 < id := by omega
 have n3 : ¬ sym < 0 := by omega
 have n4 : ¬ 999 < sym := by omega
 have n5 : ¬ dep < 0 := by omega
 have n6 : ¬ 100000 < dep := by omega
 have n7 : ¬ rad < 0 := by omega
 have n8 : ¬ 100000 < rad := by omega
 have hcase : o3 = false ∨ (o3 = true ∧ x ≠ 0) ∨ (o3 = true ∧ x = 0 ∧ y ≠ 0) ∨ (o3 = true ∧ x = 0 ∧ y = 0 ∧ rad ≠ 0) ∨ (o3 = true ∧ x = 0 ∧ y = 0 ∧ rad = 0 ∧ ns ≠ 0) ∨ (o3 = true ∧ x = 0 ∧ y = 0 ∧ rad = 0 ∧ ns = 0) := by
  cases o3 <;> simp; omega
 have hk2 : kind = 3 ∨ (kind = 6 ∧ dep = 0) ∨ (kind = 6 ∧ dep ≠ 0) := by omega
 have kd1 := hide (fun W => v7Disc_v kind false W (decide_eq_false (by omega)))
 have kp1 := hide (fun W => v7Poly_v kind true W (decide_eq_true (by omega)))
 clear hk
 rcases hk2 with rfl | ⟨rfl, rfl⟩ | ⟨rfl, hd⟩
 ·rcases hcase with rfl | ⟨rfl, h3⟩ | ⟨rfl, rfl, h3⟩ | ⟨rfl, rfl, rfl, h3⟩ | ⟨rfl, rfl, rfl, rfl, h3⟩ | ⟨rfl, rfl, rfl, rfl, rfl⟩
  all_goals
   first | (simp [h3] at h; subst h) | (simp at h; subst h)
   go_enter Tryz.func95, Tryz.ntmps95
   go_wp2_with (first | (go_at_call 102; with_reducible refine crv (kd1.out _) fun _ _ => ?_; dsimp only) | (go_at_call 103; with_reducible refine crv (kp1.out _) fun _ _ => ?_; dsimp only) | (go_at_call 128; with_reducible refine crv (K3.out _ gw) fun _ _ => ?_; dsimp only))
   go_ret
   first | exact Ret.mk' rfl gw | (refine Ret.mk' ?_ gw; simp [h3]; done) | (refine Ret.mk' ?_ gw; simp [hd]; done)
 ·rcases hcase with rfl | ⟨rfl, h3⟩ | ⟨rfl, rfl, h3⟩ | ⟨rfl, rfl, rfl, h3⟩ | ⟨rfl, rfl, rfl, rfl, h3⟩ | ⟨rfl, rfl, rfl, rfl, rfl⟩
  all_goals
   first | (simp [h3] at h; subst h) | (simp at h; subst h)
   go_enter Tryz.func95, Tryz.ntmps95
   go_wp2_with (first | (go_at_call 102; with_reducible refine crv (kd1.out _) fun _ _ => ?_; dsimp only) | (go_at_call 103; with_reducible refine crv (kp1.out _) fun _ _ => ?_; dsimp only) | (go_at_call 128; with_reducible refine crv (K3.out _ gw) fun _ _ => ?_; dsimp only))
   go_ret
   first | exact Ret.mk' rfl gw | (refine Ret.mk' ?_ gw; simp [h3]; done) | (refine Ret.mk' ?_ gw; simp [hd]; done)
 ·rcases hcase with rfl | ⟨rfl, h3⟩ | ⟨rfl, rfl, h3⟩ | ⟨rfl, rfl, rfl, h3⟩ | ⟨rfl, rfl, rfl, rfl, h3⟩ | ⟨rfl, rfl, rfl, rfl, rfl⟩
  all_goals
   first | (simp [h3, hd] at h; subst h) | (simp [hd] at h; subst h)
   go_enter Tryz.func95, Tryz.ntmps95
   go_wp2_with (first | (go_at_call 102; with_reducible refine crv (kd1.out _) fun _ _ => ?_; dsimp only) | (go_at_call 103; with_reducible refine crv (kp1.out _) fun _ _ => ?_; dsimp only) | (go_at_call 128; with_reducible refine crv (K3.out _ gw) fun _ _ => ?_; dsimp only))
   go_ret
   first | exact Ret.mk' rfl gw | (refine Ret.mk' ?_ gw; simp [h3]; done) | (refine Ret.mk' ?_ gw; simp [hd]; done)
omit K2 K5 in
include K1 K4 b in
theorem v7_light (hk : kind = 4) (h : (o1 && (o4 && (decide (rad = 0) && (decide (dep = 0) && decide (na = 0))))) = r) :
  Calls Tryz.prog 95 #[.agg #[.int .i64 id, .int .i64 kind, .int .i64 x, .int .i64 y, .int .i64 rad, .slice aA na ac, .int .i64 dep, .int .i64 sym, .slice sA ns sc]] w (Ret w (.bool r)) := by
 obtain ⟨⟨b1, b2⟩, ⟨b3, b4⟩, ⟨b5, b6⟩, b7, b8⟩ := b
 have n1 : ¬ id < 1 := by omega
 have n2 : ¬ 100000 < id := by omega
 have n3 : ¬ sym < 0 := by omega
 have n4 : ¬ 999 < sym := by omega
 have n5 : ¬ dep < 0 := by omega
 have n6 : ¬ 100000 < dep := by omega
 have n7 : ¬ rad < 0 := by omega
 have n8 : ¬ 100000 < rad := by omega
 have hcase : o1 = false ∨ (o1 = true ∧ o4 = false) ∨ (o1 = true ∧ o4 = true ∧ rad ≠ 0) ∨ (o1 = true ∧ o4 = true ∧ rad = 0 ∧ dep ≠ 0) ∨ (o1 = true ∧ o4 = true ∧ rad = 0 ∧ dep = 0 ∧ na ≠ 0) ∨ (o1 = true ∧ o4 = true ∧ rad = 0 ∧ dep = 0 ∧ na = 0) := by
  cases o1 <;> cases o4 <;> simp; omega
 subst hk
 have kd1 := hide (fun W => v7Disc_v 4 false W (by rfl))
 have kp1 := hide (fun W => v7Poly_v 4 false W (by rfl))
 rcases hcase with rfl | ⟨rfl, rfl⟩ | ⟨rfl, rfl, h3⟩ | ⟨rfl, rfl, rfl, h3⟩ | ⟨rfl, rfl, rfl, rfl, h3⟩ | ⟨rfl, rfl, rfl, rfl, rfl⟩
 all_goals
  first | (simp [h3] at h; subst h) | (simp at h; subst h)
  go_enter Tryz.func95, Tryz.ntmps95
  go_wp2_with (first | (go_at_call 102; with_reducible refine crv (kd1.out _) fun _ _ => ?_; dsimp only) | (go_at_call 103; with_reducible refine crv (kp1.out _) fun _ _ => ?_; dsimp only) | (go_at_call 126; with_reducible refine crv (K1.out _) fun _ _ => ?_; dsimp only) | (go_at_call 129; with_reducible refine crv (K4.out _ gw) fun _ _ => ?_; dsimp only))
  go_ret
  first | exact Ret.mk' rfl gw | exact Ret.mk' (by simp [h3]) gw
omit K1 K2 K5 in
include b in
theorem v7_none (hk : ¬ (kind = 1 ∨ kind = 2 ∨ kind = 5) ∧ kind ≠ 3 ∧ kind ≠ 6 ∧ kind ≠ 4) :
  Calls Tryz.prog 95 #[.agg #[.int .i64 id, .int .i64 kind, .int .i64 x, .int .i64 y, .int .i64 rad, .slice aA na ac, .int .i64 dep, .int .i64 sym, .slice sA ns sc]] w (Ret w (.bool false)) := by
 obtain ⟨⟨b1, b2⟩, ⟨b3, b4⟩, ⟨b5, b6⟩, b7, b8⟩ := b
 have n1 : ¬ id < 1 := by omega
 have n2 : ¬ 100000 < id := by omega
 have n3 : ¬ sym < 0 := by omega
 have n4 : ¬ 999 < sym := by omega
 have n5 : ¬ dep < 0 := by omega
 have n6 : ¬ 100000 < dep := by omega
 have n7 : ¬ rad < 0 := by omega
 have n8 : ¬ 100000 < rad := by omega
 have kd1 := hide (fun W => v7Disc_v kind false W (decide_eq_false (by omega)))
 have kp1 := hide (fun W => v7Poly_v kind false W (decide_eq_false (by omega)))
 have m4 : ¬ kind = 4 := by omega
 have m5 : (kind == 4) = false := by simpa using m4
 clear hk
 go_enter Tryz.func95, Tryz.ntmps95
 go_wp2_with (first | (go_at_call 102; with_reducible refine crv (kd1.out _) fun _ _ => ?_; dsimp only) | (go_at_call 103; with_reducible refine crv (kp1.out _) fun _ _ => ?_; dsimp only))
 go_ret
 exact Ret.mk' rfl gw
omit K1 K2 K5 b in
theorem v7_base (b : ¬ ((1 ≤ id ∧ id ≤ 100000) ∧ (0 ≤ sym ∧ sym ≤ 999) ∧ (0 ≤ dep ∧ dep ≤ 100000) ∧ (0 ≤ rad ∧ rad ≤ 100000))) :
  Calls Tryz.prog 95 #[.agg #[.int .i64 id, .int .i64 kind, .int .i64 x, .int .i64 y, .int .i64 rad, .slice aA na ac, .int .i64 dep, .int .i64 sym, .slice sA ns sc]] w (Ret w (.bool false)) := by
 have hcase : id < 1 ∨ (¬ id < 1 ∧ 100000 < id) ∨ (¬ id < 1 ∧ ¬ 100000 < id ∧ sym < 0) ∨ (¬ id < 1 ∧ ¬ 100000 < id ∧ ¬ sym < 0 ∧ 999 < sym) ∨ (¬ id < 1 ∧ ¬ 100000 < id ∧ ¬ sym < 0 ∧ ¬ 999 < sym ∧ dep < 0) ∨ (¬ id < 1 ∧ ¬ 100000 < id ∧ ¬ sym < 0 ∧ ¬ 999 < sym ∧ ¬ dep < 0 ∧ 100000 < dep) ∨ (¬ id < 1 ∧ ¬ 100000 < id ∧ ¬ sym < 0 ∧ ¬ 999 < sym ∧ ¬ dep < 0 ∧ ¬ 100000 < dep ∧ rad < 0) ∨ (¬ id < 1 ∧ ¬ 100000 < id ∧ ¬ sym < 0 ∧ ¬ 999 < sym ∧ ¬ dep < 0 ∧ ¬ 100000 < dep ∧ ¬ rad < 0 ∧ 100000 < rad) := by omega
 clear b
 rcases hcase with h1 | ⟨h1, h2⟩ | ⟨h1, h2, h3⟩ | ⟨h1, h2, h3, h4⟩ | ⟨h1, h2, h3, h4, h5⟩ | ⟨h1, h2, h3, h4, h5, h6⟩ | ⟨h1, h2, h3, h4, h5, h6, h7⟩ | ⟨h1, h2, h3, h4, h5, h6, h7, h8⟩
 all_goals
  go_enter Tryz.func95, Tryz.ntmps95
  go_wp2_with fail
  go_ret
  exact Ret.mk' rfl gw
end
theorem v7Valid_v (f : FV) (r : Bool) (w : World) (hr : f.rd w w.heap.size) (h : FValid f = r) :
  Calls Tryz.prog 95 #[f.val] w (Ret w (.bool r)) := by
 have k1 := hide (fun W => p1Valid_v f.x f.y _ W rfl)
 have k3 := hide (fun W (hg : Grew w W) => p3Valid_v f.area f.aA f.ac _ W ((hr.up hg).area) hr.la rfl)
 have k4 := hide (fun W (hg : Grew w W) => s5Valid_v f.secs f.sA f.sc _ W ((hr.up hg).secs) hr.ls rfl)
 unfold FValid discOk areaOk lightOk baseOk isDisc at h
 by_cases hb : (1 ≤ f.id ∧ f.id ≤ 100000) ∧ (0 ≤ f.sym ∧ f.sym ≤ 999) ∧ (0 ≤ f.dep ∧ f.dep ≤ 100000) ∧ (0 ≤ f.rad ∧ f.rad ≤ 100000)
 ·rw [decide_eq_true hb, Bool.true_and] at h
  have k2 := hide (fun (h1 : plOk f.x f.y = true) W => v7Room_v f.x f.rad _ W (pl_bd h1).1 hb.2.2.2 rfl)
  have k5 := hide (fun (h1 : plOk f.x f.y = true) W => v7Room_v f.y f.rad _ W (pl_bd h1).2 hb.2.2.2 rfl)
  rcases kind_of f.kind with hk | hk | hk | hk | ⟨h1, h2, h3, h4⟩
  ·rw [if_pos (decide_eq_true hk)] at h
   refine v7_disc _ _ _ _ _ _ _ _ _ _ _ _ _ _ _ _ _ w k1 k2 k5 hb hk ?_
   rw [← h]
   cases hp : plOk f.x f.y
   ·rfl
   ·rw [Bool.true_and, Bool.true_and, room_two hp hb.2.2.2]
  ·rw [if_neg (by rw [decide_eq_true_eq]; omega), if_pos hk] at h
   exact v7_area _ _ _ _ _ _ _ _ _ _ _ _ _ _ _ w k3 hb (.inl hk) (by rw [decide_eq_true (show f.kind = 3 ∨ f.dep = 0 from .inl hk), Bool.and_true]; exact h)
  ·rw [if_neg (by rw [decide_eq_true_eq]; omega), if_neg (by omega), if_pos hk] at h
   refine v7_area _ _ _ _ _ _ _ _ _ _ _ _ _ _ _ w k3 hb (.inr hk) ?_
   rw [← h, show decide (f.kind = 3 ∨ f.dep = 0) = decide (f.dep = 0) from decide_eq_decide.2 ⟨fun h => h.elim (fun h => by omega) id, .inr⟩]
   cases decide (f.dep = 0) <;> simp
  ·rw [if_neg (by rw [decide_eq_true_eq]; omega), if_neg (by omega), if_neg (by omega), if_pos hk] at h
   exact v7_light _ _ _ _ _ _ _ _ _ _ _ _ _ _ _ _ w k1 k4 hb hk h
  ·rw [if_neg (by rw [decide_eq_true_eq]; omega), if_neg (by omega), if_neg (by omega), if_neg (by omega)] at h
   subst h
   exact v7_none _ _ _ _ _ _ _ _ _ _ _ _ _ w hb ⟨h1, h2, h3, h4⟩
 ·rw [decide_eq_false hb, Bool.false_and] at h
  subst h
  exact v7_base _ _ _ _ _ _ _ _ _ _ _ _ _ w hb
end Go.Proofs.YtfeccolljfkejaaGreatDoor

/- The reference implementation of package feature: List. -/
set_option linter.unusedSimpArgs false
set_option linter.unusedVariables false
set_option maxHeartbeats 4000000
set_option maxRecDepth 100000
namespace Go.Proofs.YtfeccolljfkejaaGreatDoor
open Go.RowKit Go.Sort
attribute [local go_sem] Steady steadyUpon
attribute [local go_sem ↓] hs_dr lt_add_r lt_add_r2 lt_add_r3 lt_add_r4 lt_add_r5 lt_add_r6
attribute [local go_sem] cell?_gd frozen?_gd setCell_gd size_grow tape_grow cell?_grow' frozen?_grow' setCell_grow' grow_grow grow_dr grow_drew dr_dr dr_drew drew_dr dr_alloc dr_setCell dr_cell dr_frozen dr_tape dr_drawn
attribute [local irreducible] wpSteady
theorem v7List_v (fs : List FV) (A : Option Addr) (c : Nat) (r : Bool) (w : World) (hr : FRd w w.heap.size A fs) (hc : fs.length ≤ 100000000000000) (h : FList fs = r) :
  Calls Tryz.prog 53 #[.slice A fs.length c] w (Ret w (.bool r)) := by
 have hm := hmix
 by_cases h300 : 300 < fs.length
 ·obtain rfl : r = false := by
   rw [← h]; unfold FList
   rw [show decide (fs.length ≤ 300) = false by simp; omega, Bool.and_false]
  clear h
  go_enter Tryz.func53, Tryz.ntmps53
  go_wp2_with fail
  go_ret
  exact Ret.mk' rfl gw
 have HH := hide h
 have HR := hide hr
 clear h hr
 go_enter Tryz.func53, Tryz.ntmps53
 go_wp2_with fail
 go_loopw [3] (fun i wr => ∃ k : Nat, k ≤ fs.length ∧ i = .int .i64 k ∧ Grew w wr ∧ AppG (upTo fs k = true)) (fun i _ => fs.length - (intOf i).toNat)
 case atStart => exact ⟨0, by omega, rfl, gw, rfl⟩
 case round =>
  obtain ⟨k, hk, rfl, hg, hall⟩ := hrel
  have HG := hide hg
  have HA := hide hall.stop
  clear hg hall
  by_cases hlt : k < fs.length
  ·obtain ⟨b, off, hA, hb, fc⟩ := featAt (HR.out.up HG.out) hlt
   have hfr := HR.out.each _ (fAt_mem hlt)
   have hix := idx_run (cap := c) Tryz.underlying37 Tryz.sizeOf47 hA.out hlt
   have hst := upTo_succ HA.out
   unfold upOk at hst
   obtain ⟨v, hv⟩ : ∃ v, FValid (fAt fs k) = v := ⟨_, rfl⟩
   rw [hv] at hst
   have k1 := hide (fun W (hg : Grew w W) => v7Valid_v (fAt fs k) v W (hfr.up hg) hv)
   obtain ⟨l, hl⟩ : ∃ l, lastId fs k = l := ⟨_, rfl⟩
   rw [hl] at hst
   have hno : (v && decide (l < (fAt fs k).id)) = false → r = false := fun e => by
    rw [← HH.out]
    unfold FList
    rw [upTo_no hlt (by unfold upOk; rw [hv, hl]; exact e)]
    rfl
   have hpos : v = true → 1 ≤ (fAt fs k).id := fun e => by
    rw [e] at hv
    unfold FValid baseOk at hv
    rw [Bool.and_eq_true, decide_eq_true_eq] at hv
    omega
   have hst2 : (v && decide (l < (fAt fs k).id)) = true → upTo fs (k + 1) = true := fun e => by rw [hst]; exact e
   obtain ⟨c0, c1, c2, c3, c4, c5, c6, c7, c8⟩ := fc
   have HNO := hide hno
   have HST := hide hst2
   have HPO := hide hpos
   clear hv hfr hst hno hst2 hpos
   by_cases hk0 : k = 0
   ·have hl0 : l = 0 := by rw [← hl]; unfold lastId; rw [if_pos hk0]
    have nk : ¬ 0 < k := by omega
    have nk2 := decide_eq_false nk
    clear hl hk0 hA
    generalize fAt fs k = f at *
    obtain ⟨id, kind, x, y, rad, aA, ac, area, dep, sym, sA, sc, secs⟩ := f
    unfold FV.val at k1
    dsimp only at *
    generalize area.length = na at *
    generalize secs.length = ns at *
    cases v
    ·have hr := HNO.out rfl
     have HRF := hide hr
     clear hr
     go_wp2_with fail
     refine wp_region_qas 24 [] [] hm (h := ?_)
     repeat (refine wpSteady_step (fun K hK => ?_); go_simp; first | (refine hK _ ?_; clear hK K) | (apply Exists.intro; refine ⟨fun _ => ?_, hK _ ?_⟩; ((go_at_call 95; with_reducible exact k1.out _ (HG.out.trans gw))); clear hK K))
     refine rq0 fun nq osq => ?_
     try simp only [Act.put, setA]
     try dsimp only
     go_wp2_with fail
     go_ret
     exact Ret.mk' (by rw [HRF.out]; rfl) (HG.out.trans gw)
    ·have hu := HST.out (by rw [Bool.true_and, decide_eq_true_eq]; have := HPO.out rfl; omega)
     have HU := hide hu
     clear hu
     go_wp2_with fail
     refine wp_region_qas 24 [] [] hm (h := ?_)
     repeat (refine wpSteady_step (fun K hK => ?_); go_simp; first | (refine hK _ ?_; clear hK K) | (apply Exists.intro; refine ⟨fun _ => ?_, hK _ ?_⟩; ((go_at_call 95; with_reducible exact k1.out _ (HG.out.trans gw))); clear hK K))
     refine rq0 fun nq osq => ?_
     try simp only [Act.put, setA]
     try dsimp only
     go_wp2_with fail
     go_roundw
     case rel => exact ⟨k + 1, by omega, by go_num, HG.out.trans gw, HU.out⟩
     case measure => simp [intOf]; omega
   ·have nk : 0 < k := by omega
    have nk2 := decide_eq_true nk
    have hl1 : (fAt fs (k - 1)).id = l := by rw [← hl]; unfold lastId; rw [if_neg hk0]
    obtain ⟨b', off', hA', hb', fc'⟩ := featAt (k := k - 1) (HR.out.up HG.out) (by omega)
    have d0 := fc'.c0
    rw [hl1] at d0
    have hix2 := idx_run (cap := c) (k := k - 1) (len := fs.length) Tryz.underlying37 Tryz.sizeOf47 hA'.out (by omega)
    rw [show ((k - 1 : Nat) : Int) = (k : Int) - 1 by omega] at hix2
    have ewk : IntKind.i64.wrap ((k : Int) - 1) = (k : Int) - 1 := by unfold IntKind.wrap; simp [IntKind.bits, IntKind.signed]; omega
    clear hl hl1 hk0 hA hA' fc'
    generalize fAt fs k = f at *
    obtain ⟨id, kind, x, y, rad, aA, ac, area, dep, sym, sA, sc, secs⟩ := f
    unfold FV.val at k1
    dsimp only at *
    generalize area.length = na at *
    generalize secs.length = ns at *
    cases v
    ·have hr := HNO.out rfl
     have HRF := hide hr
     clear hr
     go_wp2_with fail
     refine wp_region_qas 24 [] [] hm (h := ?_)
     repeat (refine wpSteady_step (fun K hK => ?_); go_simp; first | (refine hK _ ?_; clear hK K) | (apply Exists.intro; refine ⟨fun _ => ?_, hK _ ?_⟩; ((go_at_call 95; with_reducible exact k1.out _ (HG.out.trans gw))); clear hK K))
     refine rq0 fun nq osq => ?_
     try simp only [Act.put, setA]
     try dsimp only
     go_wp2_with fail
     go_ret
     exact Ret.mk' (by rw [HRF.out]; rfl) (HG.out.trans gw)
    ·by_cases hid : l < id
     ·have hid2 : ¬ id ≤ l := by omega
      have hid3 := decide_eq_false hid2
      have hu := HST.out (by rw [Bool.true_and, decide_eq_true_eq]; exact hid)
      have HU := hide hu
      clear hu
      go_wp2_with fail
      refine wp_region_qas 24 [] [] hm (h := ?_)
      repeat (refine wpSteady_step (fun K hK => ?_); go_simp; first | (refine hK _ ?_; clear hK K) | (apply Exists.intro; refine ⟨fun _ => ?_, hK _ ?_⟩; ((go_at_call 95; with_reducible exact k1.out _ (HG.out.trans gw))); clear hK K))
      refine rq0 fun nq osq => ?_
      try simp only [Act.put, setA]
      try dsimp only
      go_wp2_with fail
      go_roundw
      case rel => exact ⟨k + 1, by omega, by go_num, HG.out.trans gw, HU.out⟩
      case measure => simp [intOf]; omega
     ·have hid2 : id ≤ l := by omega
      have hid3 := decide_eq_true hid2
      have hr := HNO.out (by rw [Bool.true_and, decide_eq_false_iff_not]; exact hid)
      have HRF := hide hr
      clear hr
      go_wp2_with fail
      refine wp_region_qas 24 [] [] hm (h := ?_)
      repeat (refine wpSteady_step (fun K hK => ?_); go_simp; first | (refine hK _ ?_; clear hK K) | (apply Exists.intro; refine ⟨fun _ => ?_, hK _ ?_⟩; ((go_at_call 95; with_reducible exact k1.out _ (HG.out.trans gw))); clear hK K))
      refine rq0 fun nq osq => ?_
      try simp only [Act.put, setA]
      try dsimp only
      go_wp2_with fail
      go_ret
      exact Ret.mk' (by rw [HRF.out]; rfl) (HG.out.trans gw)
  ·obtain rfl : k = fs.length := by omega
   have e : r = true := by
    rw [← HH.out]
    unfold FList
    rw [HA.out, Bool.true_and, decide_eq_true_eq]
    omega
   have HE := hide e
   clear e
   go_wp2_with fail
   go_ret
   exact Ret.mk' (by rw [HE.out]; rfl) (HG.out.trans gw)
end Go.Proofs.YtfeccolljfkejaaGreatDoor

