/- The order of directions; which light holds a color of which, in plain words (PlainA, turned by program). -/
import Derived.Test.YtfeccolljfkejaaGreatDoorAng
import Derived.Test.YtfeccolljfkejaaGreatDoorSecE
set_option linter.unusedSimpArgs false
set_option linter.unusedVariables false
namespace Go.Proofs.YtfeccolljfkejaaGreatDoor
open Go.RowKit Go.Sort
/-- Not both coordinates 0. -/
def NZ (v : Int × Int) : Prop := v.1 ≠ 0 ∨ v.2 ≠ 0
def cwv (u v : Int × Int) : Int := cmpw u.1 u.2 v.1 v.2
theorem cwv_swap (u v : Int × Int) : cwv v u = - cwv u v := cmpw_swap ..
theorem cwv_bd (u v : Int × Int) : cwv u v = -1 ∨ cwv u v = 0 ∨ cwv u v = 1 := cmpw_bd ..
theorem cwv_trans {u v w : Int × Int} (hu : NZ u) (hv : NZ v) (hw : NZ w) (h1 : cwv u v ≤ 0) (h2 : cwv v w ≤ 0) : cwv u w ≤ 0 := cmpw_trans hu hv hw h1 h2
theorem cwv_self (u : Int × Int) : cwv u u = 0 := cmpw_self ..
theorem nz_dir {x y : Int} (h : dirOk x y = true) : NZ (x, y) := dir_ne h
def Sec.fr (s : Sec) : Int × Int := (s.fx, s.fy)
def Sec.to (s : Sec) : Int × Int := (s.tx, s.ty)
def hs (s : Sec) (v : Int × Int) : Bool := s.has v.1 v.2
theorem hs_def (s : Sec) (v : Int × Int) : hs s v = if cwv s.fr s.to == -1 then (decide (cwv s.fr v ≤ 0) && !decide (cwv s.to v ≤ 0)) else if cwv s.fr s.to == 1 then (decide (cwv s.fr v ≤ 0) || !decide (cwv s.to v ≤ 0)) else true := rfl
def shA (ss : List Sec) (v : Int × Int) : Int × Int := showAt ss v.1 v.2
theorem shA_def (ss : List Sec) (v : Int × Int) : shA ss v = match ss.find? (fun s => hs s v) with | some s => (s.col, s.rng) | none => (0, 0) := rfl
/-- All ends of a light's sectors are no zeros. -/
def NZs (ss : List Sec) : Prop := ∀ s ∈ ss, NZ s.fr ∧ NZ s.to
theorem nzs_of {ss : List Sec} (h : ∀ s ∈ ss, s.ok = true) : NZs ss := fun s hs => by
 have := h s hs
 simp only [Sec.ok, secOk, Bool.and_eq_true] at this
 exact ⟨nz_dir this.1.1.1, nz_dir this.1.1.2⟩
/-- The rank of a direction among some. -/
def rk (L : List (Int × Int)) (v : Int × Int) : Nat := (L.filter fun e => decide (cwv e v ≤ 0)).length
theorem filter_le {α : Type} {p q : α → Bool} : ∀ (l : List α), (∀ a ∈ l, p a = true → q a = true) → (l.filter p).length ≤ (l.filter q).length
 | [], _ => Nat.le_refl _
 | a :: l, h => by
  have ih := filter_le l fun b hb => h b (by simp [hb])
  have ha := h a (by simp)
  rw [List.filter_cons, List.filter_cons]
  cases hp : p a
  ·cases hq : q a <;> simp <;> omega
  ·rw [ha hp]
   simp
   omega
theorem filter_lt {α : Type} {p q : α → Bool} : ∀ (l : List α), (∀ a ∈ l, p a = true → q a = true) → (∃ a ∈ l, p a = false ∧ q a = true) → (l.filter p).length < (l.filter q).length
 | [], _, h => by obtain ⟨a, ha, _⟩ := h; cases ha
 | a :: l, h, hx => by
  have hle := filter_le l fun b hb => h b (by simp [hb])
  have ha := h a (by simp)
  rw [List.filter_cons, List.filter_cons]
  cases hp : p a
  ·cases hq : q a
   ·obtain ⟨b, hb, hpb, hqb⟩ := hx
    rcases List.mem_cons.1 hb with rfl | hb
    ·rw [hq] at hqb; cases hqb
    ·simpa using filter_lt l (fun b hb => h b (by simp [hb])) ⟨b, hb, hpb, hqb⟩
   ·simp
    omega
  ·rw [ha hp]
   obtain ⟨b, hb, hpb, hqb⟩ := hx
   rcases List.mem_cons.1 hb with rfl | hb
   ·rw [hp] at hpb; cases hpb
   ·have := filter_lt l (fun b hb => h b (by simp [hb])) ⟨b, hb, hpb, hqb⟩
    simpa using this
theorem rk_iff {L : List (Int × Int)} (hL : ∀ e ∈ L, NZ e) {u v : Int × Int} (hu : u ∈ L) (hv : v ∈ L) : cwv u v ≤ 0 ↔ rk L u ≤ rk L v := by
 constructor
 ·intro h
  refine filter_le L fun e he hp => ?_
  rw [decide_eq_true_eq] at hp ⊢
  exact cwv_trans (hL e he) (hL u hu) (hL v hv) hp h
 ·intro h
  rcases Int.lt_or_le 0 (cwv u v) with h1 | h1
  ·exfalso
   have h2 : cwv v u ≤ 0 := by rw [cwv_swap u v]; omega
   have : rk L v < rk L u := by
    refine filter_lt L (fun e he hp => ?_) ⟨u, hu, by simpa using h1, by rw [cwv_self]; rfl⟩
    rw [decide_eq_true_eq] at hp ⊢
    exact cwv_trans (hL e he) (hL v hv) (hL u hu) hp h2
   omega
  ·exact h1
theorem rk_cases {L : List (Int × Int)} (hL : ∀ e ∈ L, NZ e) {u v : Int × Int} (hu : u ∈ L) (hv : v ∈ L) : (cwv u v = -1 ∧ rk L u < rk L v) ∨ (cwv u v = 0 ∧ rk L u = rk L v) ∨ (cwv u v = 1 ∧ rk L v < rk L u) := by
 have h1 := rk_iff hL hu hv
 have h2 := rk_iff hL hv hu
 rw [cwv_swap u v] at h2
 rcases cwv_bd u v with h | h | h <;> rw [h] at h1 h2 <;> simp [h] at h1 h2 ⊢ <;> omega
/-- A sector's directions by ranks. -/
theorem hs_rk {L : List (Int × Int)} (hL : ∀ e ∈ L, NZ e) {s : Sec} {v : Int × Int} (hf : s.fr ∈ L) (ht : s.to ∈ L) (hv : v ∈ L) :
  (hs s v = true) ↔ ((rk L s.fr < rk L s.to ∧ rk L s.fr ≤ rk L v ∧ rk L v < rk L s.to) ∨ (rk L s.to < rk L s.fr ∧ (rk L s.fr ≤ rk L v ∨ rk L v < rk L s.to)) ∨ rk L s.fr = rk L s.to) := by
 have h1 := rk_iff hL hf hv
 have h2 := rk_iff hL ht hv
 rw [hs_def]
 rcases rk_cases hL hf ht with ⟨h, h3⟩ | ⟨h, h3⟩ | ⟨h, h3⟩ <;> simp only [h] <;> simp [h1, h2] <;> omega
/-- The greatest of some. -/
theorem rk_max {L : List (Int × Int)} : ∀ (l : List (Int × Int)), l ≠ [] → ∃ t ∈ l, ∀ e ∈ l, rk L e ≤ rk L t
 | [a], _ => ⟨a, by simp, fun e he => by simp at he; rw [he]; exact Nat.le_refl _⟩
 | a :: b :: l, _ => by
  obtain ⟨t, ht, h⟩ := rk_max (L := L) (b :: l) (by simp)
  rcases Nat.le_total (rk L a) (rk L t) with h1 | h1
  ·exact ⟨t, by simp [ht], fun e he => (List.mem_cons.1 he).elim (fun h2 => by rw [h2]; exact h1) (fun h2 => h e h2)⟩
  ·exact ⟨a, by simp, fun e he => (List.mem_cons.1 he).elim (fun h2 => by rw [h2]; exact Nat.le_refl _) (fun h2 => Nat.le_trans (h e h2) h1)⟩
/-- Among the ends of some sectors there is one at which each of these sectors is as at a given direction. -/
theorem rep {ts : List (Int × Int)} (hts : ∀ e ∈ ts, NZ e) (hne : ts ≠ []) {v : Int × Int} (hv : NZ v) : ∃ t ∈ ts, ∀ s : Sec, s.fr ∈ ts → s.to ∈ ts → hs s t = hs s v := by
 have hL : ∀ e ∈ v :: ts, NZ e := fun e he => (List.mem_cons.1 he).elim (fun h => by rw [h]; exact hv) (fun h => hts e h)
 have hvL : v ∈ v :: ts := by simp
 have hin : ∀ e, e ∈ ts → e ∈ v :: ts := fun e he => by simp [he]
 by_cases hc : ∃ e ∈ ts, rk (v :: ts) e ≤ rk (v :: ts) v
 ·obtain ⟨t, ht, hmax⟩ := rk_max (L := v :: ts) (ts.filter fun e => decide (rk (v :: ts) e ≤ rk (v :: ts) v)) (by
   obtain ⟨e, he, hr⟩ := hc
   exact List.ne_nil_of_mem (List.mem_filter.2 ⟨he, by simpa using hr⟩))
  obtain ⟨htm, htv⟩ := List.mem_filter.1 ht
  rw [decide_eq_true_eq] at htv
  refine ⟨t, htm, fun s hf hto => ?_⟩
  have key : ∀ e ∈ ts, rk (v :: ts) e ≤ rk (v :: ts) t ↔ rk (v :: ts) e ≤ rk (v :: ts) v := fun e he =>
   ⟨fun h => Nat.le_trans h htv, fun h => hmax e (List.mem_filter.2 ⟨he, by simpa using h⟩)⟩
  have k1 := key _ hf
  have k2 := key _ hto
  rw [Bool.eq_iff_iff, hs_rk hL (hin _ hf) (hin _ hto) (hin _ htm), hs_rk hL (hin _ hf) (hin _ hto) hvL]
  omega
 ·obtain ⟨t, ht, hmax⟩ := rk_max (L := v :: ts) ts hne
  refine ⟨t, ht, fun s hf hto => ?_⟩
  have k1 := hmax _ hf
  have k2 := hmax _ hto
  have k3 : ¬ rk (v :: ts) s.fr ≤ rk (v :: ts) v := fun h => hc ⟨_, hf, h⟩
  have k4 : ¬ rk (v :: ts) s.to ≤ rk (v :: ts) v := fun h => hc ⟨_, hto, h⟩
  rw [Bool.eq_iff_iff, hs_rk hL (hin _ hf) (hin _ hto) (hin _ ht), hs_rk hL (hin _ hf) (hin _ hto) hvL]
  omega
theorem find_congr {ss : List Sec} {p q : Sec → Bool} (h : ∀ s ∈ ss, p s = q s) : ss.find? p = ss.find? q := by
 induction ss with
 | nil => rfl
 | cons s ss ih =>
  rw [List.find?_cons, List.find?_cons, h s (by simp), ih fun t ht => h t (by simp [ht])]
theorem shA_congr {ss : List Sec} {u v : Int × Int} (h : ∀ s ∈ ss, hs s u = hs s v) : shA ss u = shA ss v := by
 rw [shA_def, shA_def, find_congr h]
theorem turns_mem {ss : List Sec} {s : Sec} (h : s ∈ ss) : s.fr ∈ turnsOf ss ∧ s.to ∈ turnsOf ss := by
 unfold turnsOf
 exact ⟨List.mem_flatMap.2 ⟨s, h, by simp [Sec.fr]⟩, List.mem_flatMap.2 ⟨s, h, by simp [Sec.to]⟩⟩
theorem turns_nz {ss : List Sec} (h : NZs ss) : ∀ e ∈ turnsOf ss, NZ e := fun e he => by
 unfold turnsOf at he
 obtain ⟨s, hs, he⟩ := List.mem_flatMap.1 he
 simp at he
 rcases he with rfl | rfl
 ·exact (h s hs).1
 ·exact (h s hs).2
/-- At some turn, both lights show what they show in a given direction; or both are empty. -/
theorem rep2 {sa sb : List Sec} (ha : NZs sa) (hb : NZs sb) {v : Int × Int} (hv : NZ v) : (sa = [] ∧ sb = []) ∨ ∃ t ∈ turnsOf (sa ++ sb), shA sa t = shA sa v ∧ shA sb t = shA sb v := by
 have hn : NZs (sa ++ sb) := fun s hs => (List.mem_append.1 hs).elim (ha s) (hb s)
 rcases Decidable.em (sa ++ sb = []) with h | h
 ·exact .inl (List.append_eq_nil_iff.1 h)
 ·obtain ⟨s, hs⟩ := List.exists_mem_of_ne_nil _ h
  obtain ⟨t, ht, hk⟩ := rep (turns_nz hn) (List.ne_nil_of_mem (turns_mem hs).1) hv
  exact .inr ⟨t, ht, shA_congr fun s hs => hk s (turns_mem (by simp [hs])).1 (turns_mem (by simp [hs])).2, shA_congr fun s hs => hk s (turns_mem (by simp [hs])).1 (turns_mem (by simp [hs])).2⟩
theorem holdsAt_def (sa sb : List Sec) (col : Int) (v : Int × Int) : holdsAt sa sb col v = !((shA sa v).1 == col && ((shA sb v).1 != col || decide ((shA sb v).2 < (shA sa v).2))) := rfl
/-- Holding at the turns is holding everywhere. -/
theorem holds_all {sa sb : List Sec} (ha : NZs sa) (hb : NZs sb) {col : Int} (hc : 1 ≤ col) (h : (turnsOf (sa ++ sb)).all (holdsAt sa sb col) = true) {v : Int × Int} (hv : NZ v) : holdsAt sa sb col v = true := by
 rcases rep2 ha hb hv with ⟨rfl, rfl⟩ | ⟨t, ht, h1, h2⟩
 ·have : ¬ (0 : Int) = col := by omega
  simp [holdsAt_def, shA_def, this]
 ·have := List.all_eq_true.1 h t ht
  rw [holdsAt_def, h1, h2] at this
  rw [holdsAt_def]
  exact this
theorem holds_iff {sa sb : List Sec} (ha : NZs sa) (hb : NZs sb) {col : Int} (hc : 1 ≤ col) : ((turnsOf (sa ++ sb)).all (holdsAt sa sb col) = true) ↔ ∀ v, NZ v → holdsAt sa sb col v = true :=
 ⟨fun h v hv => holds_all ha hb hc h hv, fun h => List.all_eq_true.2 fun t ht => h t (turns_nz (fun s hs => (List.mem_append.1 hs).elim (ha s) (hb s)) t ht)⟩
theorem holdsAt_iff {sa sb : List Sec} {col : Int} {v : Int × Int} : holdsAt sa sb col v = true ↔ ((shA sa v).1 = col → (shA sb v).1 = col ∧ (shA sa v).2 ≤ (shA sb v).2) := by
 rw [holdsAt_def]
 by_cases h1 : (shA sa v).1 = col <;> by_cases h2 : (shA sb v).1 = col <;> simp [h1, h2]
/-- At most one sector of a light has a direction. -/
theorem clash_of {s t : Sec} (h1 : NZ s.fr) (h2 : NZ s.to) (h3 : NZ t.fr) (h4 : NZ t.to) {v : Int × Int} (hv : NZ v) (a : hs s v = true) (b : hs t v = true) : clash s t = true := by
 have hL : ∀ e ∈ [s.fr, s.to, t.fr, t.to, v], NZ e := fun e he => by simp at he; rcases he with rfl | rfl | rfl | rfl | rfl <;> assumption
 rw [hs_rk hL (by simp) (by simp) (by simp)] at a b
 have e : clash s t = (hs s t.fr || hs t s.fr) := rfl
 rw [e, Bool.or_eq_true, hs_rk hL (by simp) (by simp) (by simp), hs_rk hL (by simp) (by simp) (by simp)]
 omega
theorem LV_nzs {ss : List Sec} (h : LValid ss = true) : NZs ss := nzs_of (LV_ok h).1
theorem holdsOf_ok {sa sb : List Sec} {col : Int} (h : (LValid sa && LValid sb && colOk col) = true) : holdsOf sa sb col = ((turnsOf (sa ++ sb)).all (holdsAt sa sb col), 0) := by unfold holdsOf; rw [if_pos h]
theorem holdsOf_no {sa sb : List Sec} {col : Int} (h : (LValid sa && LValid sb && colOk col) = false) : holdsOf sa sb col = (false, 1) := by unfold holdsOf; rw [if_neg (by rw [h]; simp)]
theorem colOk_le {col : Int} (h : colOk col = true) : 1 ≤ col := by simp [colOk] at h; omega
theorem holds_self {sa : List Sec} {col : Int} (h : LValid sa = true) (hc : colOk col = true) : holdsOf sa sa col = (true, 0) := by
 rw [holdsOf_ok (by rw [h, hc]; rfl), (holds_iff (LV_nzs h) (LV_nzs h) (colOk_le hc)).2 fun v _ => holdsAt_iff.2 fun h => ⟨h, Int.le_refl _⟩]
theorem holds_trans {sa sb sc : List Sec} {col : Int} (ha : LValid sa = true) (hb : LValid sb = true) (hd : LValid sc = true) (hc : colOk col = true) (h1 : (holdsOf sa sb col).1 = true) (h2 : (holdsOf sb sc col).1 = true) : (holdsOf sa sc col).1 = true := by
 rw [holdsOf_ok (by rw [ha, hb, hc]; rfl)] at h1
 rw [holdsOf_ok (by rw [hb, hd, hc]; rfl)] at h2
 rw [holdsOf_ok (by rw [ha, hd, hc]; rfl)]
 have k1 := (holds_iff (LV_nzs ha) (LV_nzs hb) (colOk_le hc)).1 h1
 have k2 := (holds_iff (LV_nzs hb) (LV_nzs hd) (colOk_le hc)).1 h2
 refine (holds_iff (LV_nzs ha) (LV_nzs hd) (colOk_le hc)).2 fun v hv => holdsAt_iff.2 fun h => ?_
 obtain ⟨a1, a2⟩ := holdsAt_iff.1 (k1 v hv) h
 obtain ⟨b1, b2⟩ := holdsAt_iff.1 (k2 v hv) a1
 exact ⟨b1, by omega⟩
end Go.Proofs.YtfeccolljfkejaaGreatDoor
