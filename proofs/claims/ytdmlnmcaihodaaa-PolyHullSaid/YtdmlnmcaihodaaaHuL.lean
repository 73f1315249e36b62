/- The law PolyHull, walked. -/
import Derived.Test.YtdmlnmcaihodaaaHuF
import Derived.Test.YtdmlnmcaihodaaaCvw
namespace Go.Proofs.Ytdmlnmcaihodaaa
set_option linter.unusedVariables false
set_option linter.unusedSimpArgs false
open Go.RowKit Go.Sort Go.Lib
attribute [local go_sem] Steady steadyUpon
attribute [local go_sem ↓] hs_dr lt_add_r lt_add_r2 lt_add_r3 lt_add_r4 lt_add_r5 lt_add_r6
attribute [local go_sem] cell?_gd frozen?_gd setCell_gd size_grow tape_grow cell?_grow' frozen?_grow' setCell_grow' grow_grow grow_dr grow_drew dr_dr dr_drew drew_dr dr_alloc dr_setCell dr_cell dr_frozen dr_tape dr_drawn
attribute [local irreducible] wpSteady

theorem conv_lefts {ps : List Pt} (h : PValid ps = true) : convexOf ps = true ↔ lefts ps := by
  have hs := pv_simp h
  have hl := hs.len
  unfold convexOf convTo
  rw [List.all_eq_true]
  constructor
  · intro hc i
    have := hc (i % ps.length) (List.mem_range.2 (Nat.mod_lt _ (by omega)))
    rw [← cor_mod2, cor_eqm (ps := ps) (i := i % ps.length + 1) (k := i + 1) (by rw [Nat.mod_add_mod]), cor_eqm (ps := ps) (i := i % ps.length + 2) (k := i + 2) (by rw [Nat.mod_add_mod])] at this
    have hb := hs.bend i
    unfold tn at this
    simp only [Bool.not_eq_true', decide_eq_false_iff_not] at this
    rcases Int.lt_trichotomy (cr (cor ps i) (cor ps (i + 1)) (cor ps (i + 2))) 0 with x | x | x
    · exact absurd (sg_neg.2 x) this
    · exact absurd x hb
    · exact x
  · intro hl i _
    have := sg_pos.2 (hl i)
    unfold tn
    simp only [Bool.not_eq_true', decide_eq_false_iff_not]
    omega
/-- What the law asks of a hull, in plain words. -/
structure HullF (ps hs qs : List Pt) : Prop where
  valid : PValid hs = true
  conv : convexOf hs = true
  mem : ∀ c, c ∈ hs → c ∈ ps
  place : ∀ q, q ∈ ps → ∃ x, inOf hs q = (x, 0) ∧ 0 ≤ x
  self : hullOf hs = (hs, 0)
  hold : PValid qs = true → convexOf qs = true → (∀ q, q ∈ ps → 0 ≤ (inOf qs q).1 ∧ (inOf qs q).2 = 0) → pholdsOf qs hs = (true, 0)
theorem hull_facts {ps hs qs : List Pt} {e : Int} (h : hullOf ps = (hs, e)) : (e ≠ 0 ∧ hs = [] ∧ (e = 1 ∨ e = 4 ∨ e = 2)) ∨ (e = 0 ∧ HullF ps hs qs) := by
  unfold hullOf at h
  split at h
  · rename_i hc
    obtain ⟨h0, h200, hok⟩ := hc
    split at h
    · injection h with h1 h2
      exact .inl ⟨by omega, h1.symm, by omega⟩
    · split at h
      · injection h with h1 h2
        exact .inl ⟨by omega, h1.symm, by omega⟩
      · rename_i c1 c2
        injection h with h1 h2
        subst h1
        have hne : ps ≠ [] := fun e => h0 (by rw [e]; rfl)
        obtain ⟨a1, a2, a3, a4⟩ := hull_is hne hok (by omega) (by omega)
        refine .inr ⟨h2.symm, a1, (conv_lefts a1).2 a2.turn, a3, fun q hq => ?_, hull_self a1 a2, fun v1 v2 v3 => ?_⟩
        · refine ⟨placeOf (hullC ps) q, ?_, a4 q hq⟩
          have : q.ok = true := (List.all_eq_true.1 hok) q hq
          unfold inOf
          rw [a1, this]
          rfl
        · unfold pholdsOf
          rw [v1, a1, Bool.and_self, if_pos rfl, cvx_holds v1 ((conv_lefts v1).1 v2) fun c hc => ?_]
          obtain ⟨w1, w2⟩ := v3 c (a3 c hc)
          unfold inOf at w1 w2
          split at w1
          · exact w1
          · rename_i hn
            rw [if_neg hn] at w2
            cases w2
  · injection h with h1 h2
    exact .inl ⟨by omega, h1.symm, by omega⟩
theorem and_split {v c a i : Bool} (h : (v && c) = a) (k : (a && i) = true) : v = true ∧ c = true ∧ i = true := by
  cases v <;> cases c <;> cases a <;> cases i <;> simp_all
def memTo (ps : List Pt) (q : Pt) (k : Nat) : Bool := (ps.take k).any fun x => decide (x = q)
theorem memTo_succ {ps : List Pt} {q p : Pt} {k : Nat} (h : ps[k]? = some p) : memTo ps q (k + 1) = (memTo ps q k || decide (p = q)) := by
  unfold memTo
  rw [List.take_add_one, h, List.any_append]
  simp
theorem memTo_all {ps : List Pt} {q : Pt} (h : q ∈ ps) : memTo ps q ps.length = true := by
  unfold memTo
  rw [List.take_length, List.any_eq_true]
  exact ⟨q, h, by simp⟩
def inTo (ps qs : List Pt) (k : Nat) : Bool := (ps.take k).all fun q => decide ((inOf qs q).2 = 0) && decide (0 ≤ (inOf qs q).1)
theorem inTo_succ {ps qs : List Pt} {p : Pt} {k : Nat} (h : ps[k]? = some p) : inTo ps qs (k + 1) = (inTo ps qs k && (decide ((inOf qs p).2 = 0) && decide (0 ≤ (inOf qs p).1))) := by
  unfold inTo
  rw [List.take_add_one, h, List.all_append]
  simp
theorem inTo_all {ps qs : List Pt} (h : inTo ps qs ps.length = true) : ∀ q, q ∈ ps → 0 ≤ (inOf qs q).1 ∧ (inOf qs q).2 = 0 := by
  unfold inTo at h
  rw [List.take_length, List.all_eq_true] at h
  intro q hq
  have := h q hq
  simp only [Bool.and_eq_true, decide_eq_true_eq] at this
  exact ⟨this.2, this.1⟩

set_option maxRecDepth 100000 in
set_option maxHeartbeats 4000000 in
theorem polyHull_far (ps qs : List Pt) (A A' : Option Addr) (c c' : Nat) (w : World) (h : 60 < ps.length) :
    Calls Try.prog 6 #[.slice A ps.length c, .slice A' qs.length c'] w (Ret w (.bool true)) := by
  have hm := hmix
  have h1 : (60 : Int) < ps.length := by omega
  go_enter Try.func6, Try.ntmps6
  go_wp2_with (go_at_call 10; (with_reducible refine (head_v _).mono ?_); rintro e w' ⟨rfl, ⟨_, _⟩, rfl⟩; dsimp only)
  go_ret
  exact Ret.mk' rfl (by repeat (with_reducible first | exact Grew.refl _ | assumption | refine Grew.alloc ?_ _ | refine Grew.grow ?_ _ | refine Grew.dr ?_ _ | refine Grew.drewN ?_ _ | refine Grew.drew ?_ | refine Grew.trans ?_ (Hid.out (by assumption))))
set_option maxRecDepth 100000 in
set_option maxHeartbeats 4000000 in
theorem polyHull_none (ps qs : List Pt) (A A' : Option Addr) (c c' : Nat) (w : World) (hr : Rd w w.heap.size 2 A (ps.map encD)) (h : ps.length ≤ 60) {e : Int} (hh : hullOf ps = ([], e)) (he : e = 1 ∨ e = 4 ∨ e = 2) :
    Calls Try.prog 6 #[.slice A ps.length c, .slice A' qs.length c'] w (Ret w (.bool true)) := by
  have hm := hmix
  have h1 : ¬ (60 : Int) < ps.length := by omega
  have k1 := hide (fun W (hg : Grew w W) => Hull_any ps A c W (hr.up hg) (by omega))
  rw [hh] at k1
  clear hh hr
  rcases he with rfl | rfl | rfl
  all_goals
    go_enter Try.func6, Try.ntmps6
    go_wp2_with (go_at_call 10; (with_reducible refine (head_v _).mono ?_); rintro e w' ⟨rfl, ⟨_, _⟩, rfl⟩; dsimp only)
    refine (k1.out _ (by repeat (with_reducible first | exact Grew.refl _ | assumption | refine Grew.alloc ?_ _ | refine Grew.grow ?_ _ | refine Grew.dr ?_ _ | refine Grew.drewN ?_ _ | refine Grew.drew ?_ | refine Grew.trans ?_ (Hid.out (by assumption))))).mono ?_
    rintro e Wh ⟨v, rfl, hown, hg⟩
    have HG := hide (Grew.trans (a := w) (by repeat (with_reducible first | exact Grew.refl _ | assumption | refine Grew.alloc ?_ _ | refine Grew.grow ?_ _ | refine Grew.dr ?_ _ | refine Grew.drewN ?_ _ | refine Grew.drew ?_ | refine Grew.trans ?_ (Hid.out (by assumption)))) hg)
    clear hown hg
    dsimp only
    go_wp2_with fail
    go_ret
    exact Ret.mk' rfl HG.out
set_option maxRecDepth 100000 in
set_option maxHeartbeats 16000000 in
theorem polyHull_some (ps qs hs : List Pt) (A A' : Option Addr) (c c' : Nat) (w : World) (hr : Rd w w.heap.size 2 A (ps.map encD)) (h : ps.length ≤ 60) (hr' : Rd w w.heap.size 2 A' (qs.map encD)) (hc' : qs.length ≤ 100000000000000) (hh : hullOf ps = (hs, 0)) (F : HullF ps hs qs) :
    Calls Try.prog 6 #[.slice A ps.length c, .slice A' qs.length c'] w (Ret w (.bool true)) := by
  have hm := hmix
  have h1 : ¬ (60 : Int) < ps.length := by omega
  have k1 := hide (fun W (hg : Grew w W) => Hull_any ps A c W (hr.up hg) (by omega))
  rw [hh] at k1
  have FH := hide F
  have HR := hide hr
  have HR' := hide hr'
  have hpp := pv_parts F.valid
  have HOK := hide hpp.2
  have hs24 : hs.length ≤ 24 := by omega
  have hs3 : 3 ≤ hs.length := by omega
  clear hh hr hr' F hpp
  go_enter Try.func6, Try.ntmps6
  go_wp2_with (go_at_call 10; (with_reducible refine (head_v _).mono ?_); rintro e w' ⟨rfl, ⟨_, _⟩, rfl⟩; dsimp only)
  refine (k1.out _ (by repeat (with_reducible first | exact Grew.refl _ | assumption | refine Grew.alloc ?_ _ | refine Grew.grow ?_ _ | refine Grew.dr ?_ _ | refine Grew.drewN ?_ _ | refine Grew.drew ?_ | refine Grew.trans ?_ (Hid.out (by assumption))))).mono ?_
  rintro e Wh ⟨v, rfl, hown, hg⟩
  obtain ⟨Ah, ch, rfl, _, hrd⟩ := Rd.of_own (f := encD) encD_len hown rfl
  have HG := hide (Grew.trans (a := w) (by repeat (with_reducible first | exact Grew.refl _ | assumption | refine Grew.alloc ?_ _ | refine Grew.grow ?_ _ | refine Grew.dr ?_ _ | refine Grew.drewN ?_ _ | refine Grew.drew ?_ | refine Grew.trans ?_ (Hid.out (by assumption)))) hg)
  have HS := hide hrd
  clear hown hg hrd k1
  have k2 := hide (fun W (hg : Grew Wh W) => PValid_v hs Ah ch true W (HS.out.up hg) (by omega) FH.out.valid)
  have k3 := hide (fun W (hg : Grew Wh W) => Convex_v hs Ah ch true W (HS.out.up hg) (by omega) HOK.out FH.out.conv)
  dsimp only
  go_wp2_with (first | (go_at_call 18; (with_reducible refine (k2.out _ (by repeat (with_reducible first | exact Grew.refl _ | assumption | refine Grew.alloc ?_ _ | refine Grew.grow ?_ _ | refine Grew.dr ?_ _ | refine Grew.drewN ?_ _ | refine Grew.drew ?_ | refine Grew.trans ?_ (Hid.out (by assumption))))).mono ?_); rintro e w' ⟨rfl, ⟨_, _⟩, rfl⟩; dsimp only) | (go_at_call 19; (with_reducible refine (k3.out _ (by repeat (with_reducible first | exact Grew.refl _ | assumption | refine Grew.alloc ?_ _ | refine Grew.grow ?_ _ | refine Grew.dr ?_ _ | refine Grew.drewN ?_ _ | refine Grew.drew ?_ | refine Grew.trans ?_ (Hid.out (by assumption))))).mono ?_); rintro e w' ⟨rfl, ⟨_, _⟩, rfl⟩; dsimp only))
  refine wp_name ?_
  intro W0 hW
  have HG0 : Hid (Grew Wh W0) := hide (by rw [← hW]; exact (by repeat (with_reducible first | exact Grew.refl _ | assumption | refine Grew.alloc ?_ _ | refine Grew.grow ?_ _ | refine Grew.dr ?_ _ | refine Grew.drewN ?_ _ | refine Grew.drew ?_ | refine Grew.trans ?_ (Hid.out (by assumption)))))
  clear hW k2 k3
  go_loopw [5, 60] (fun up i wr => ∃ k : Nat, k ≤ hs.length ∧ i = .int .i64 k ∧ up = .bool true ∧ Grew W0 wr) (fun _ i _ => hs.length - (intOf i).toNat)
  case atStart => exact ⟨0, by omega, rfl, rfl, Grew.refl _⟩
  case round =>
    obtain ⟨k, hk, rfl, rfl, hg⟩ := hrel
    have HG1 := hide (HG0.out.trans hg)
    have HGr := hide hg
    clear hg
    by_cases hlt : k < hs.length
    · have hp := cor_get hlt
      have hmem := FH.out.mem _ (cor_mem hlt)
      obtain ⟨b, off, hA, hb, g0, g1⟩ := ptAt (HS.out.up HG1.out) hp
      have hix := idx_run (cap := ch) (k := k) (len := hs.length) Try.underlying22 Try.sizeOf28 hA.out hlt
      generalize cor hs k = q at *
      obtain ⟨q1, q2⟩ := q
      dsimp only at g0 g1
      have HM := hide (memTo_all hmem)
      clear hp hmem hA
      go_wp2_with fail
      refine wp_name ?_
      intro W1 hW
      have HG2 : Hid (Grew wr W1) := hide (by rw [← hW]; exact (by repeat (with_reducible first | exact Grew.refl _ | assumption | refine Grew.alloc ?_ _ | refine Grew.grow ?_ _ | refine Grew.dr ?_ _ | refine Grew.drewN ?_ _ | refine Grew.drew ?_ | refine Grew.trans ?_ (Hid.out (by assumption)))))
      have hbq : W1.heap[wr.heap.size]? = some (.cells #[.int .i64 q1, .int .i64 q2] 28 (0, 0)) := by rw [← hW]; exact heap_alloc_new _ _
      have HBQ := hide hbq
      clear hW hbq hix g0 g1
      go_loopw [10, 66] (fun f i wi => ∃ m : Nat, m ≤ ps.length ∧ i = .int .i64 m ∧ f = .bool (memTo ps (q1, q2) m) ∧ Grew W1 wi) (fun _ i _ => ps.length - (intOf i).toNat)
      case atStart => exact ⟨0, by omega, rfl, rfl, Grew.refl _⟩
      case round =>
        obtain ⟨m, hmm, rfl, rfl, hg⟩ := hrel
        have HG3 := hide (HG1.out.trans (HG2.out.trans hg))
        have HG4 := hide hg
        have bq := (hg.heap (blk_lt HBQ.out)).trans HBQ.out
        have d0 := blk_cell bq 0
        have d1 := blk_cell bq 1
        have ld := blk_lt bq
        clear hg bq
        by_cases hlt2 : m < ps.length
        · have hp := cor_get hlt2
          have hms := memTo_succ (q := (q1, q2)) hp
          obtain ⟨b', off', hA', hb', x0, x1⟩ := ptAt (HR.out.up (HG.out.trans HG3.out)) hp
          have hix2 := idx_run (cap := c) (k := m) (len := ps.length) Try.underlying22 Try.sizeOf28 hA'.out hlt2
          generalize cor ps m = x at *
          obtain ⟨p1, p2⟩ := x
          dsimp only at x0 x1
          have HMS := hide hms
          obtain ⟨o, ho⟩ : ∃ o, memTo ps (q1, q2) m = o := ⟨_, rfl⟩
          rw [ho] at HMS ⊢
          clear hp hms hA' ho
          have hcase : (p1 = q1 ∧ p2 = q2) ∨ (p1 = q1 ∧ p2 ≠ q2) ∨ p1 ≠ q1 := by
            by_cases e1 : p1 = q1 <;> by_cases e2 : p2 = q2 <;> simp [e1, e2]
          cases o
          · rcases hcase with ⟨rfl, rfl⟩ | ⟨rfl, hne⟩ | hne
            all_goals
              go_wp2_with fail
              go_roundw
              case rel => exact ⟨m + 1, by omega, by go_num, by rw [HMS.out]; simp_all, HG4.out.trans (by repeat (with_reducible first | exact Grew.refl _ | assumption | refine Grew.alloc ?_ _ | refine Grew.grow ?_ _ | refine Grew.dr ?_ _ | refine Grew.drewN ?_ _ | refine Grew.drew ?_ | refine Grew.trans ?_ (Hid.out (by assumption))))⟩
              case measure => simp [intOf]; omega
          · go_wp2_with fail
            go_roundw
            case rel => exact ⟨m + 1, by omega, by go_num, by rw [HMS.out]; rfl, HG4.out.trans (by repeat (with_reducible first | exact Grew.refl _ | assumption | refine Grew.alloc ?_ _ | refine Grew.grow ?_ _ | refine Grew.dr ?_ _ | refine Grew.drewN ?_ _ | refine Grew.drew ?_ | refine Grew.trans ?_ (Hid.out (by assumption))))⟩
            case measure => simp [intOf]; omega
        · obtain rfl : m = ps.length := by omega
          rw [HM.out]
          go_wp2_with fail
          go_roundw
          case rel => exact ⟨k + 1, by omega, by go_num, rfl, HGr.out.trans (HG2.out.trans (HG4.out.trans (by repeat (with_reducible first | exact Grew.refl _ | assumption | refine Grew.alloc ?_ _ | refine Grew.grow ?_ _ | refine Grew.dr ?_ _ | refine Grew.drewN ?_ _ | refine Grew.drew ?_ | refine Grew.trans ?_ (Hid.out (by assumption))))))⟩
          case measure => simp [intOf]; omega
    · obtain rfl : k = hs.length := by omega
      obtain ⟨Wz, hz⟩ : ∃ z, z = wr := ⟨wr, rfl⟩
      subst hz
      have h8 := HR'.out.up (HG.out.trans HG1.out)
      obtain ⟨v, hv⟩ : ∃ u, PValid qs = u := ⟨_, rfl⟩
      obtain ⟨a0, ha0⟩ : ∃ u, (v && convexOf qs) = u := ⟨_, rfl⟩
      have kv1 := hide (fun W (hg : Grew Wz W) => PValid_v qs A' c' v W (h8.up hg) hc' hv)
      have HV := hide hv
      have HA0 := hide ha0
      have hcase : (v = false ∧ a0 = false) ∨ (v = true ∧ convexOf qs = a0) := by
        rw [← ha0]
        cases v
        · exact .inl ⟨rfl, rfl⟩
        · exact .inr ⟨rfl, rfl⟩
      clear hv ha0
      refine wp_name ?_
      intro W2 hW
      have HG5 : Hid (Grew Wz W2) := hide (by rw [← hW]; exact (by repeat (with_reducible first | exact Grew.refl _ | assumption | refine Grew.alloc ?_ _ | refine Grew.grow ?_ _ | refine Grew.dr ?_ _ | refine Grew.drewN ?_ _ | refine Grew.drew ?_ | refine Grew.trans ?_ (Hid.out (by assumption)))))
      clear hW
      have kv2 : Hid (v = true → ∀ W, Grew Wz W → Calls Try.prog 19 #[.slice A' qs.length c'] W (Ret W (.bool (convexOf qs)))) := hide (fun e W hg => by
        have pq := pv_parts (ps := qs) (by rw [HV.out, e])
        exact Convex_v qs A' c' _ W (h8.up hg) (by omega) pq.2 rfl)
      have H8 := hide h8
      have HAF : Hid ((v = false ∧ a0 = false) ∨ v = true) := hide (by rcases hcase with h | h; exact .inl h; exact .inr h.1)
      have hvc : v = false ∨ (v = true ∧ convexOf qs = a0) := by
        rcases hcase with h | h
        · exact .inl h.1
        · exact .inr h
      clear hcase h8
      rcases hvc with rfl | ⟨rfl, hcv⟩
      · have ha0 : a0 = false := by rcases HAF.out with h | h; exact h.2; cases h
        have HA1 := hide ha0
        clear ha0 HAF
        go_wp2_with (go_at_call 18; (with_reducible refine (kv1.out _ HG5.out).mono ?_); rintro e w' ⟨rfl, ⟨_, _⟩, rfl⟩; dsimp only)
        refine wp_name ?_
        intro W3 hW
        have HG6 : Hid (Grew Wz W3) := hide (by rw [← hW]; exact Grew.trans HG5.out (by repeat (with_reducible first | exact Grew.refl _ | assumption | refine Grew.alloc ?_ _ | refine Grew.grow ?_ _ | refine Grew.dr ?_ _ | refine Grew.drewN ?_ _ | refine Grew.drew ?_ | refine Grew.trans ?_ (Hid.out (by assumption)))))
        clear hW
        go_loopw [5, 13, 90] (fun up al i wi => ∃ m : Nat, m ≤ ps.length ∧ i = .int .i64 m ∧ up = .bool true ∧ al = .bool (a0 && inTo ps qs m) ∧ Grew W3 wi) (fun _ _ i _ => ps.length - (intOf i).toNat)
        case atStart => exact ⟨0, by omega, rfl, rfl, by rw [HA1.out]; rfl, Grew.refl _⟩
        case round =>
          obtain ⟨m, hmm, rfl, rfl, rfl, hg⟩ := hrel
          have HG7 := hide (HG6.out.trans hg)
          have HGw := hide hg
          clear hg
          by_cases hlt2 : m < ps.length
          · have hp := cor_get hlt2
            obtain ⟨x, hx, hx0⟩ := FH.out.place _ (cor_mem hlt2)
            have hms := inTo_succ (qs := qs) hp
            obtain ⟨b', off', hA', hb', x0, x1⟩ := ptAt (HR.out.up (HG.out.trans (HG1.out.trans HG7.out))) hp
            have hix2 := idx_run (cap := c) (k := m) (len := ps.length) Try.underlying22 Try.sizeOf28 hA'.out hlt2
            generalize cor ps m = p at *
            obtain ⟨⟨y, f⟩, hy⟩ : ∃ u, inOf qs p = u := ⟨_, rfl⟩
            rw [hy] at hms
            have ki1 := hide (fun W (hg : Grew Wh W) => In_v hs Ah ch p _ W (HS.out.up hg) (by omega) hx)
            have ki2 := hide (fun W (hg : Grew Wz W) => In_v qs A' c' p _ W (H8.out.up hg) hc' hy)
            obtain ⟨p1, p2⟩ := p
            dsimp only at x0 x1 hms
            have HMS := hide hms
            obtain ⟨o, ho⟩ : ∃ o, (a0 && inTo ps qs m) = o := ⟨_, rfl⟩
            have HO := hide ho
            rw [ho]
            clear hp hms hA' ho hx hy
            have hcase : f ≠ 0 ∨ (f = 0 ∧ ¬ 0 ≤ y) ∨ (f = 0 ∧ 0 ≤ y) := by omega
            cases o
            · go_wp2_with ((go_at_call 12; (first | with_reducible refine (ki1.out _ (by repeat (with_reducible first | exact Grew.refl _ | assumption | refine Grew.alloc ?_ _ | refine Grew.grow ?_ _ | refine Grew.dr ?_ _ | refine Grew.drewN ?_ _ | refine Grew.drew ?_ | refine Grew.trans ?_ (Hid.out (by assumption))))).mono ?_ | with_reducible refine (ki2.out _ (by repeat (with_reducible first | exact Grew.refl _ | assumption | refine Grew.alloc ?_ _ | refine Grew.grow ?_ _ | refine Grew.dr ?_ _ | refine Grew.drewN ?_ _ | refine Grew.drew ?_ | refine Grew.trans ?_ (Hid.out (by assumption))))).mono ?_); rintro e w' ⟨rfl, ⟨_, _⟩, rfl⟩; dsimp only))
              go_roundw
              case rel => exact ⟨m + 1, by omega, by go_num, rfl, by rw [HMS.out, ← Bool.and_assoc, HO.out]; rfl, HGw.out.trans (by repeat (with_reducible first | exact Grew.refl _ | assumption | refine Grew.alloc ?_ _ | refine Grew.grow ?_ _ | refine Grew.dr ?_ _ | refine Grew.drewN ?_ _ | refine Grew.drew ?_ | refine Grew.trans ?_ (Hid.out (by assumption))))⟩
              case measure => simp [intOf]; omega
            · rcases hcase with hf | ⟨rfl, hf⟩ | ⟨rfl, hf⟩
              all_goals
                go_wp2_with ((go_at_call 12; (first | with_reducible refine (ki1.out _ (by repeat (with_reducible first | exact Grew.refl _ | assumption | refine Grew.alloc ?_ _ | refine Grew.grow ?_ _ | refine Grew.dr ?_ _ | refine Grew.drewN ?_ _ | refine Grew.drew ?_ | refine Grew.trans ?_ (Hid.out (by assumption))))).mono ?_ | with_reducible refine (ki2.out _ (by repeat (with_reducible first | exact Grew.refl _ | assumption | refine Grew.alloc ?_ _ | refine Grew.grow ?_ _ | refine Grew.dr ?_ _ | refine Grew.drewN ?_ _ | refine Grew.drew ?_ | refine Grew.trans ?_ (Hid.out (by assumption))))).mono ?_); rintro e w' ⟨rfl, ⟨_, _⟩, rfl⟩; dsimp only))
                go_roundw
                case rel => exact ⟨m + 1, by omega, by go_num, rfl, by rw [HMS.out, ← Bool.and_assoc, HO.out]; simp [hf], HGw.out.trans (by repeat (with_reducible first | exact Grew.refl _ | assumption | refine Grew.alloc ?_ _ | refine Grew.grow ?_ _ | refine Grew.dr ?_ _ | refine Grew.drewN ?_ _ | refine Grew.drew ?_ | refine Grew.trans ?_ (Hid.out (by assumption))))⟩
                case measure => simp [intOf]; omega
          · obtain rfl : m = ps.length := by omega
            obtain ⟨o, ho⟩ : ∃ o, (a0 && inTo ps qs ps.length) = o := ⟨_, rfl⟩
            have HO := hide ho
            rw [ho]
            have kH := hide (fun W (hg : Grew Wh W) => Hull_any hs Ah ch W (HS.out.up hg) (by omega))
            rw [FH.out.self] at kH
            have kh : Hid (o = true → ∀ W, Grew Wz W → Calls Try.prog 21 #[.slice A' qs.length c', .slice Ah hs.length ch] W (Ret W (.tuple #[.bool true, .int .i64 0]))) := hide (fun e W hg => by
              obtain ⟨y1, y2, y3⟩ := and_split HA0.out (HO.out.trans e)
              exact Holds_v qs hs A' Ah c' ch (true, 0) W (H8.out.up hg) (HS.out.up (HG1.out.trans hg)) hc' (by omega) (FH.out.hold (HV.out.trans y1) y2 (inTo_all y3)))
            clear ho
            go_wp2_with fail
            refine (kH.out _ (by repeat (with_reducible first | exact Grew.refl _ | assumption | refine Grew.alloc ?_ _ | refine Grew.grow ?_ _ | refine Grew.dr ?_ _ | refine Grew.drewN ?_ _ | refine Grew.drew ?_ | refine Grew.trans ?_ (Hid.out (by assumption))))).mono ?_
            rintro e Wk ⟨v, rfl, hown, hg⟩
            obtain ⟨Ak, ck, rfl, _, hrd⟩ := Rd.of_own (f := encD) encD_len hown rfl
            have HG9 := hide (HG7.out.trans (Grew.trans (by repeat (with_reducible first | exact Grew.refl _ | assumption | refine Grew.alloc ?_ _ | refine Grew.grow ?_ _ | refine Grew.dr ?_ _ | refine Grew.drewN ?_ _ | refine Grew.drew ?_ | refine Grew.trans ?_ (Hid.out (by assumption)))) hg))
            have HK := hide hrd
            have ks := hide (fun W (hg : Grew Wk W) => Same_v hs hs Ah Ak ch ck true W (HS.out.up (HG1.out.trans (HG9.out.trans hg))) (HK.out.up hg) (by omega) (by omega) (by simp))
            clear hown hg hrd kH
            dsimp only
            cases o
            · go_wp2_with (go_at_call 20; (with_reducible refine (ks.out _ (by repeat (with_reducible first | exact Grew.refl _ | assumption | refine Grew.alloc ?_ _ | refine Grew.grow ?_ _ | refine Grew.dr ?_ _ | refine Grew.drewN ?_ _ | refine Grew.drew ?_ | refine Grew.trans ?_ (Hid.out (by assumption))))).mono ?_); rintro e w' ⟨rfl, ⟨_, _⟩, rfl⟩; dsimp only)
              go_ret
              exact Ret.mk' rfl (HG.out.trans (HG1.out.trans (HG9.out.trans (by repeat (with_reducible first | exact Grew.refl _ | assumption | refine Grew.alloc ?_ _ | refine Grew.grow ?_ _ | refine Grew.dr ?_ _ | refine Grew.drewN ?_ _ | refine Grew.drew ?_ | refine Grew.trans ?_ (Hid.out (by assumption)))))))
            · have kf := hide (kh.out rfl)
              clear kh
              go_wp2_with (first | (go_at_call 20; (with_reducible refine (ks.out _ (by repeat (with_reducible first | exact Grew.refl _ | assumption | refine Grew.alloc ?_ _ | refine Grew.grow ?_ _ | refine Grew.dr ?_ _ | refine Grew.drewN ?_ _ | refine Grew.drew ?_ | refine Grew.trans ?_ (Hid.out (by assumption))))).mono ?_); rintro e w' ⟨rfl, ⟨_, _⟩, rfl⟩; dsimp only) | (go_at_call 21; (with_reducible refine (kf.out _ (HG9.out.trans (by repeat (with_reducible first | exact Grew.refl _ | assumption | refine Grew.alloc ?_ _ | refine Grew.grow ?_ _ | refine Grew.dr ?_ _ | refine Grew.drewN ?_ _ | refine Grew.drew ?_ | refine Grew.trans ?_ (Hid.out (by assumption)))))).mono ?_); rintro e w' ⟨rfl, ⟨_, _⟩, rfl⟩; dsimp only))
              go_ret
              exact Ret.mk' rfl (HG.out.trans (HG1.out.trans (HG9.out.trans (by repeat (with_reducible first | exact Grew.refl _ | assumption | refine Grew.alloc ?_ _ | refine Grew.grow ?_ _ | refine Grew.dr ?_ _ | refine Grew.drewN ?_ _ | refine Grew.drew ?_ | refine Grew.trans ?_ (Hid.out (by assumption)))))))
      · have kc := kv2.out rfl
        rw [hcv] at kc
        have KC := hide kc
        clear kc hcv HAF
        go_wp2_with (first | (go_at_call 18; (with_reducible refine (kv1.out _ HG5.out).mono ?_); rintro e w' ⟨rfl, ⟨_, _⟩, rfl⟩; dsimp only) | (go_at_call 19; (with_reducible refine (KC.out _ (HG5.out.trans (by repeat (with_reducible first | exact Grew.refl _ | assumption | refine Grew.alloc ?_ _ | refine Grew.grow ?_ _ | refine Grew.dr ?_ _ | refine Grew.drewN ?_ _ | refine Grew.drew ?_ | refine Grew.trans ?_ (Hid.out (by assumption)))))).mono ?_); rintro e w' ⟨rfl, ⟨_, _⟩, rfl⟩; dsimp only))
        refine wp_name ?_
        intro W3 hW
        have HG6 : Hid (Grew Wz W3) := hide (by rw [← hW]; exact Grew.trans HG5.out (by repeat (with_reducible first | exact Grew.refl _ | assumption | refine Grew.alloc ?_ _ | refine Grew.grow ?_ _ | refine Grew.dr ?_ _ | refine Grew.drewN ?_ _ | refine Grew.drew ?_ | refine Grew.trans ?_ (Hid.out (by assumption)))))
        clear hW
        go_loopw [5, 13, 90] (fun up al i wi => ∃ m : Nat, m ≤ ps.length ∧ i = .int .i64 m ∧ up = .bool true ∧ al = .bool (a0 && inTo ps qs m) ∧ Grew W3 wi) (fun _ _ i _ => ps.length - (intOf i).toNat)
        case atStart => exact ⟨0, by omega, rfl, rfl, by simp [inTo], Grew.refl _⟩
        case round =>
          obtain ⟨m, hmm, rfl, rfl, rfl, hg⟩ := hrel
          have HG7 := hide (HG6.out.trans hg)
          have HGw := hide hg
          clear hg
          by_cases hlt2 : m < ps.length
          · have hp := cor_get hlt2
            obtain ⟨x, hx, hx0⟩ := FH.out.place _ (cor_mem hlt2)
            have hms := inTo_succ (qs := qs) hp
            obtain ⟨b', off', hA', hb', x0, x1⟩ := ptAt (HR.out.up (HG.out.trans (HG1.out.trans HG7.out))) hp
            have hix2 := idx_run (cap := c) (k := m) (len := ps.length) Try.underlying22 Try.sizeOf28 hA'.out hlt2
            generalize cor ps m = p at *
            obtain ⟨⟨y, f⟩, hy⟩ : ∃ u, inOf qs p = u := ⟨_, rfl⟩
            rw [hy] at hms
            have ki1 := hide (fun W (hg : Grew Wh W) => In_v hs Ah ch p _ W (HS.out.up hg) (by omega) hx)
            have ki2 := hide (fun W (hg : Grew Wz W) => In_v qs A' c' p _ W (H8.out.up hg) hc' hy)
            obtain ⟨p1, p2⟩ := p
            dsimp only at x0 x1 hms
            have HMS := hide hms
            obtain ⟨o, ho⟩ : ∃ o, (a0 && inTo ps qs m) = o := ⟨_, rfl⟩
            have HO := hide ho
            rw [ho]
            clear hp hms hA' ho hx hy
            have hcase : f ≠ 0 ∨ (f = 0 ∧ ¬ 0 ≤ y) ∨ (f = 0 ∧ 0 ≤ y) := by omega
            cases o
            · go_wp2_with ((go_at_call 12; (first | with_reducible refine (ki1.out _ (by repeat (with_reducible first | exact Grew.refl _ | assumption | refine Grew.alloc ?_ _ | refine Grew.grow ?_ _ | refine Grew.dr ?_ _ | refine Grew.drewN ?_ _ | refine Grew.drew ?_ | refine Grew.trans ?_ (Hid.out (by assumption))))).mono ?_ | with_reducible refine (ki2.out _ (by repeat (with_reducible first | exact Grew.refl _ | assumption | refine Grew.alloc ?_ _ | refine Grew.grow ?_ _ | refine Grew.dr ?_ _ | refine Grew.drewN ?_ _ | refine Grew.drew ?_ | refine Grew.trans ?_ (Hid.out (by assumption))))).mono ?_); rintro e w' ⟨rfl, ⟨_, _⟩, rfl⟩; dsimp only))
              go_roundw
              case rel => exact ⟨m + 1, by omega, by go_num, rfl, by rw [HMS.out, ← Bool.and_assoc, HO.out]; rfl, HGw.out.trans (by repeat (with_reducible first | exact Grew.refl _ | assumption | refine Grew.alloc ?_ _ | refine Grew.grow ?_ _ | refine Grew.dr ?_ _ | refine Grew.drewN ?_ _ | refine Grew.drew ?_ | refine Grew.trans ?_ (Hid.out (by assumption))))⟩
              case measure => simp [intOf]; omega
            · rcases hcase with hf | ⟨rfl, hf⟩ | ⟨rfl, hf⟩
              all_goals
                go_wp2_with ((go_at_call 12; (first | with_reducible refine (ki1.out _ (by repeat (with_reducible first | exact Grew.refl _ | assumption | refine Grew.alloc ?_ _ | refine Grew.grow ?_ _ | refine Grew.dr ?_ _ | refine Grew.drewN ?_ _ | refine Grew.drew ?_ | refine Grew.trans ?_ (Hid.out (by assumption))))).mono ?_ | with_reducible refine (ki2.out _ (by repeat (with_reducible first | exact Grew.refl _ | assumption | refine Grew.alloc ?_ _ | refine Grew.grow ?_ _ | refine Grew.dr ?_ _ | refine Grew.drewN ?_ _ | refine Grew.drew ?_ | refine Grew.trans ?_ (Hid.out (by assumption))))).mono ?_); rintro e w' ⟨rfl, ⟨_, _⟩, rfl⟩; dsimp only))
                go_roundw
                case rel => exact ⟨m + 1, by omega, by go_num, rfl, by rw [HMS.out, ← Bool.and_assoc, HO.out]; simp [hf], HGw.out.trans (by repeat (with_reducible first | exact Grew.refl _ | assumption | refine Grew.alloc ?_ _ | refine Grew.grow ?_ _ | refine Grew.dr ?_ _ | refine Grew.drewN ?_ _ | refine Grew.drew ?_ | refine Grew.trans ?_ (Hid.out (by assumption))))⟩
                case measure => simp [intOf]; omega
          · obtain rfl : m = ps.length := by omega
            obtain ⟨o, ho⟩ : ∃ o, (a0 && inTo ps qs ps.length) = o := ⟨_, rfl⟩
            have HO := hide ho
            rw [ho]
            have kH := hide (fun W (hg : Grew Wh W) => Hull_any hs Ah ch W (HS.out.up hg) (by omega))
            rw [FH.out.self] at kH
            have kh : Hid (o = true → ∀ W, Grew Wz W → Calls Try.prog 21 #[.slice A' qs.length c', .slice Ah hs.length ch] W (Ret W (.tuple #[.bool true, .int .i64 0]))) := hide (fun e W hg => by
              obtain ⟨y1, y2, y3⟩ := and_split HA0.out (HO.out.trans e)
              exact Holds_v qs hs A' Ah c' ch (true, 0) W (H8.out.up hg) (HS.out.up (HG1.out.trans hg)) hc' (by omega) (FH.out.hold (HV.out.trans y1) y2 (inTo_all y3)))
            clear ho
            go_wp2_with fail
            refine (kH.out _ (by repeat (with_reducible first | exact Grew.refl _ | assumption | refine Grew.alloc ?_ _ | refine Grew.grow ?_ _ | refine Grew.dr ?_ _ | refine Grew.drewN ?_ _ | refine Grew.drew ?_ | refine Grew.trans ?_ (Hid.out (by assumption))))).mono ?_
            rintro e Wk ⟨v, rfl, hown, hg⟩
            obtain ⟨Ak, ck, rfl, _, hrd⟩ := Rd.of_own (f := encD) encD_len hown rfl
            have HG9 := hide (HG7.out.trans (Grew.trans (by repeat (with_reducible first | exact Grew.refl _ | assumption | refine Grew.alloc ?_ _ | refine Grew.grow ?_ _ | refine Grew.dr ?_ _ | refine Grew.drewN ?_ _ | refine Grew.drew ?_ | refine Grew.trans ?_ (Hid.out (by assumption)))) hg))
            have HK := hide hrd
            have ks := hide (fun W (hg : Grew Wk W) => Same_v hs hs Ah Ak ch ck true W (HS.out.up (HG1.out.trans (HG9.out.trans hg))) (HK.out.up hg) (by omega) (by omega) (by simp))
            clear hown hg hrd kH
            dsimp only
            cases o
            · go_wp2_with (go_at_call 20; (with_reducible refine (ks.out _ (by repeat (with_reducible first | exact Grew.refl _ | assumption | refine Grew.alloc ?_ _ | refine Grew.grow ?_ _ | refine Grew.dr ?_ _ | refine Grew.drewN ?_ _ | refine Grew.drew ?_ | refine Grew.trans ?_ (Hid.out (by assumption))))).mono ?_); rintro e w' ⟨rfl, ⟨_, _⟩, rfl⟩; dsimp only)
              go_ret
              exact Ret.mk' rfl (HG.out.trans (HG1.out.trans (HG9.out.trans (by repeat (with_reducible first | exact Grew.refl _ | assumption | refine Grew.alloc ?_ _ | refine Grew.grow ?_ _ | refine Grew.dr ?_ _ | refine Grew.drewN ?_ _ | refine Grew.drew ?_ | refine Grew.trans ?_ (Hid.out (by assumption)))))))
            · have kf := hide (kh.out rfl)
              clear kh
              go_wp2_with (first | (go_at_call 20; (with_reducible refine (ks.out _ (by repeat (with_reducible first | exact Grew.refl _ | assumption | refine Grew.alloc ?_ _ | refine Grew.grow ?_ _ | refine Grew.dr ?_ _ | refine Grew.drewN ?_ _ | refine Grew.drew ?_ | refine Grew.trans ?_ (Hid.out (by assumption))))).mono ?_); rintro e w' ⟨rfl, ⟨_, _⟩, rfl⟩; dsimp only) | (go_at_call 21; (with_reducible refine (kf.out _ (HG9.out.trans (by repeat (with_reducible first | exact Grew.refl _ | assumption | refine Grew.alloc ?_ _ | refine Grew.grow ?_ _ | refine Grew.dr ?_ _ | refine Grew.drewN ?_ _ | refine Grew.drew ?_ | refine Grew.trans ?_ (Hid.out (by assumption)))))).mono ?_); rintro e w' ⟨rfl, ⟨_, _⟩, rfl⟩; dsimp only))
              go_ret
              exact Ret.mk' rfl (HG.out.trans (HG1.out.trans (HG9.out.trans (by repeat (with_reducible first | exact Grew.refl _ | assumption | refine Grew.alloc ?_ _ | refine Grew.grow ?_ _ | refine Grew.dr ?_ _ | refine Grew.drewN ?_ _ | refine Grew.drew ?_ | refine Grew.trans ?_ (Hid.out (by assumption)))))))
theorem polyHull_any (ps : List Pt) (A : Option Addr) (c : Nat) (qs : List Pt) (A' : Option Addr) (c' : Nat) (w : World) (hr : Rd w w.heap.size 2 A (ps.map encD)) (hc : ps.length ≤ 100000000000000) (hr' : Rd w w.heap.size 2 A' (qs.map encD)) (hc' : qs.length ≤ 100000000000000) :
    Calls Try.prog 6 #[.slice A ps.length c, .slice A' qs.length c'] w (Ret w (.bool true)) := by
  by_cases h : 60 < ps.length
  · exact polyHull_far ps qs A A' c c' w h
  · obtain ⟨⟨hs, e⟩, hh⟩ : ∃ r, hullOf ps = r := ⟨_, rfl⟩
    rcases hull_facts (qs := qs) hh with ⟨_, rfl, h2⟩ | ⟨rfl, F⟩
    · exact polyHull_none ps qs A A' c c' w hr (by omega) hh h2
    · exact polyHull_some ps qs hs A A' c c' w hr (by omega) hr' hc' hh F
end Go.Proofs.Ytdmlnmcaihodaaa
