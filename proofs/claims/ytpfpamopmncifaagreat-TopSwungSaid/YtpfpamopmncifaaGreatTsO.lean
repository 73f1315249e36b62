/- TopSwung in plain words: what the results of the walks say of each other. -/
import Derived.Test.YtpfpamopmncifaaGreatTsV
set_option linter.unusedSimpArgs false
set_option linter.unusedVariables false
namespace Go.Proofs.YtpfpamopmncifaaGreat
open Go.RowKit Go.Sort
theorem accS_mono {f u f' u' : Int} (hf : f ≤ f') (hu : u' ≤ u) (o o' : Option Pt) (x : STV) (h : ∀ q, o' = some q → ∃ p, o = some p ∧ p.1 ≤ q.1 ∧ q.2 ≤ p.2) :
  ∀ q, accS f' u' o' x = some q → ∃ p, accS f u o x = some p ∧ p.1 ≤ q.1 ∧ q.2 ≤ p.2 := by
 intro q hq
 unfold accS at hq ⊢
 split at hq
 ·obtain ⟨p, hp, h1, h2⟩ := h q hq
  subst hp
  split
  ·exact ⟨p, rfl, h1, h2⟩
  ·exact ⟨joinP p x.2, rfl, by unfold joinP; dsimp only; omega, by unfold joinP; dsimp only; omega⟩
 ·rename_i hn
  rw [if_neg (by omega)]
  cases o' with
  | none =>
   injection hq with hq
   subst hq
   cases o with
   | none => exact ⟨_, rfl, Int.le_refl _, Int.le_refl _⟩
   | some p => exact ⟨joinP p x.2, rfl, by unfold joinP; dsimp only; omega, by unfold joinP; dsimp only; omega⟩
  | some y =>
   injection hq with hq
   subst hq
   obtain ⟨p, rfl, h1, h2⟩ := h y rfl
   exact ⟨joinP p x.2, rfl, by unfold joinP; dsimp only; omega, by unfold joinP; dsimp only; omega⟩
theorem acc_mono {f u f' u' : Int} (hf : f ≤ f') (hu : u' ≤ u) : ∀ (l : List STV) (o o' : Option Pt), (∀ q, o' = some q → ∃ p, o = some p ∧ p.1 ≤ q.1 ∧ q.2 ≤ p.2) →
  ∀ q, l.foldl (accS f' u') o' = some q → ∃ p, l.foldl (accS f u) o = some p ∧ p.1 ≤ q.1 ∧ q.2 ≤ p.2
 | [], _, _, h => h
 | x :: l, o, o', h => acc_mono hf hu l _ _ (accS_mono hf hu o o' x h)
theorem acc_keep (f u : Int) : ∀ (l : List STV) (o : Option Pt), o.isSome = true → (l.foldl (accS f u) o).isSome = true
 | [], _, h => h
 | x :: l, o, h => by
  refine acc_keep f u l _ ?_
  unfold accS
  split
  ·exact h
  ·cases o <;> rfl
theorem acc_some (f u : Int) : ∀ (l : List STV) (o : Option Pt) (x : STV), x ∈ l → ¬ (x.1.2 < f ∨ u < x.1.1) → (l.foldl (accS f u) o).isSome = true
 | [], _, _, h, _ => by cases h
 | y :: l, o, x, h, hx => by
  rcases List.mem_cons.1 h with rfl | h
  ·refine acc_keep f u l _ ?_
   unfold accS
   rw [if_neg hx]
   cases o <;> rfl
  ·exact acc_some f u l _ x h hx
theorem str_cover {st sp t : Int} (hs : List Pt) (h1 : 1 ≤ sp) (h2 : st ≤ t) : ∀ n : Nat, t ≤ st + (n : Int) * sp → ∃ x ∈ strTo st sp hs (n + 1), x.1.1 ≤ t ∧ t ≤ x.1.2
 | 0, h3 => by
  refine ⟨((atK st sp 0, atK st sp 0), hAt hs 0), ?_, ?_, ?_⟩
  ·unfold strTo strAt; simp
  ·unfold atK; dsimp only; omega
  ·unfold atK; dsimp only; omega
 | n + 1, h3 => by
  by_cases h4 : t ≤ st + (n : Int) * sp
  ·obtain ⟨x, hx, h5⟩ := str_cover hs h1 h2 n h4
   refine ⟨x, ?_, h5⟩
   rw [strTo_succ]
   exact List.mem_append_left _ hx
  ·rw [strTo_succ]
   have e : ((n + 1 : Nat) : Int) * sp = (n : Int) * sp + sp := by
    rw [Int.natCast_add, Int.add_mul]
    simp
   have ea : atK st sp (n + 1) = st + (n : Int) * sp + sp := by
    unfold atK
    rw [e]
    omega
   rw [e] at h3
   by_cases h5 : t = atK st sp (n + 1)
   ·refine ⟨((atK st sp (n + 1), atK st sp (n + 1)), hAt hs (n + 1)), List.mem_append_right _ ?_, ?_, ?_⟩
    ·unfold strAt; simp
    ·dsimp only; omega
    ·dsimp only; omega
   ·refine ⟨((atK st sp (n + 1) - sp + 1, atK st sp (n + 1) - 1), joinP (hAt hs (n + 1 - 1)) (hAt hs (n + 1))), List.mem_append_right _ ?_, ?_, ?_⟩
    ·unfold strAt
     rw [if_pos ⟨by omega, by omega⟩]
     exact List.mem_append_left _ (List.mem_singleton.2 rfl)
    ·dsimp only; omega
    ·dsimp only; omega
theorem str_ok {st sp : Int} {hs : List Pt} (h : tdOk st sp hs = true) : ∀ n : Nat, n ≤ hs.length → ∀ x ∈ strTo st sp hs n, hOk x.2 = true
 | 0, _, x, hx => by unfold strTo at hx; simp at hx
 | n + 1, hn, x, hx => by
  rw [strTo_succ] at hx
  rcases List.mem_append.1 hx with hx | hx
  ·exact str_ok h n (by omega) x hx
  ·have a1 := tdOk_at h (k := n) (by omega)
   unfold strAt at hx
   rcases List.mem_append.1 hx with hx | hx
   ·split at hx
    ·rename_i hc
     have a2 := tdOk_at h (k := n - 1) (by omega)
     rw [List.mem_singleton.1 hx]
     exact join_ok a2 a1
    ·cases hx
   ·rw [List.mem_singleton.1 hx]
    exact a1
theorem acc_ok (f u : Int) : ∀ (l : List STV) (o : Option Pt), (∀ x ∈ l, hOk x.2 = true) → (∀ p, o = some p → hOk p = true) → ∀ p, l.foldl (accS f u) o = some p → hOk p = true
 | [], _, _, h, p, e => h p e
 | x :: l, o, hl, h, p, e => by
  refine acc_ok f u l (accS f u o x) (fun y hy => hl y (List.mem_cons_of_mem _ hy)) (fun q hq => ?_) p e
  unfold accS at hq
  split at hq
  ·exact h q hq
  ·cases ho : o with
   | none => rw [ho] at hq; injection hq with hq; rw [← hq]; exact hl x (List.mem_cons_self ..)
   | some y => rw [ho] at hq; injection hq with hq; rw [← hq]; exact join_ok (h y ho) (hl x (List.mem_cons_self ..))
/-- The heights of a stretch of time have those of each time of it. -/
theorem height_both {st sp f u t : Int} {hs : List Pt} (h1 : (heightOf st sp hs f u).2 = 0) (h2 : (heightOf st sp hs t t).2 = 0) (hf : f ≤ t) (hu : t ≤ u) :
  (heightOf st sp hs f u).1.1 ≤ (heightOf st sp hs t t).1.1 ∧ (heightOf st sp hs t t).1.2 ≤ (heightOf st sp hs f u).1.2 ∧ hOk (heightOf st sp hs f u).1 = true := by
 unfold heightOf at h1 h2 ⊢
 split at h1
 ·rename_i o1
  rw [if_pos o1]
  split at h1
  ·cases h1
  rename_i g1
  rw [if_neg g1]
  split at h2
  ·rename_i o2
   rw [if_pos o2]
   split at h2
   ·cases h2
   rename_i g2
   rw [if_neg g2]
   dsimp only
   have htd : tdOk st sp hs = true := by
    unfold okT at o1
    rw [Bool.and_eq_true] at o1
    exact o1.1
   have hb : tdBase st sp hs.length = true := by unfold tdOk at htd; rw [Bool.and_eq_true] at htd; exact htd.1
   obtain ⟨_, _, _, _, _, _, _, b8, b9⟩ := base_yes _ _ _ hb
   obtain ⟨n, hn⟩ : ∃ n, hs.length = n + 1 := ⟨hs.length - 1, by omega⟩
   have hl : t ≤ st + (n : Int) * sp := by
    have : ¬ lastT st sp hs.length < t := fun h => g2 (.inr h)
    unfold lastT at this
    rw [hn] at this
    rw [show ((n + 1 : Nat) : Int) - 1 = (n : Int) by omega] at this
    omega
   obtain ⟨x, hx, x1, x2⟩ := str_cover hs b8.1 (by omega : st ≤ t) n hl
   rw [← hn] at hx
   have hsm := acc_some t t (strTo st sp hs hs.length) none x hx (by omega)
   unfold accL
   obtain ⟨q, hq⟩ := Option.isSome_iff_exists.1 hsm
   obtain ⟨p, hp, p1, p2⟩ := acc_mono hf hu (strTo st sp hs hs.length) none none (fun q hq => by cases hq) q hq
   rw [hq, hp]
   exact ⟨p1, p2, acc_ok f u _ _ (str_ok htd _ (Nat.le_refl _)) (fun q hq => by cases hq) p hp⟩
  ·cases h2
 ·cases h1
/-- A buoy is within the radius at each height. -/
theorem rad_has {x y lo hi ch al ah r h : Int} {p : Pt} (hR : RadP x y lo hi ch al ah r 0) (h1 : al ≤ h) (hh : hasM ch (wat lo h) (p.1 - x) (p.2 - y) = true) :
  (0 ≤ r ∧ r ≤ 100000) ∧ (p.1 - x) * (p.1 - x) + (p.2 - y) * (p.2 - y) ≤ r * r := by
 rcases hR with ⟨_, _, h⟩ | ⟨_, _, _, h⟩ | ⟨_, _, g1, g2, g3, _, _⟩
 ·cases h
 ·cases h
 ·refine ⟨⟨g1, g2⟩, ?_⟩
  unfold hasM at hh
  rw [decide_eq_true_eq] at hh
  have h2 : wat lo al * wat lo al ≤ wat lo h * wat lo h := Int.mul_le_mul (by unfold wat; omega) (by unfold wat; omega) (by unfold wat; omega) (by unfold wat; omega)
  omega
theorem cover_at {x y r : Int} {p : Pt} (hr : 0 ≤ r ∧ r ≤ 100000) (ho : plOk x y = true) (hp : p.ok = true) (h : (p.1 - x) * (p.1 - x) + (p.2 - y) * (p.2 - y) ≤ r * r) : coverD x y r p = true := by
 unfold coverD nearOf
 rw [if_pos (by rw [hp, show Pt.ok (x, y) = true from ho, show distB r = true by unfold distB; rw [decide_eq_true_eq]; omega]; rfl)]
 have e0 : dt (x, y) (x, y) p = 0 := by unfold dt; dsimp only; rw [Int.sub_self, Int.sub_self]; omega
 have e1 : nearB p (x, y) (x, y) r = true := by
  unfold nearB sqr
  rw [e0, if_pos (Int.le_refl 0), decide_eq_true_eq]
  dsimp only
  unfold dt
  dsimp only
  omega
 rw [e1]
 rfl
theorem nTo_all (m : Dm) : (nTo m 4 = m.r ∧ ∃ a b d e : Int, m.a = 1000000 * a ∧ m.b = 1000000 * b ∧ m.d = 1000000 * d ∧ m.e = 1000000 * e) ∨ nTo m 4 = m.r + 1 := by
 have dv : ∀ {z : Int}, ¬ z.tmod 1000000 ≠ 0 → ∃ q, z = 1000000 * q := fun {z} h => by
  obtain ⟨q, hq⟩ := Int.dvd_of_tmod_eq_zero (Decidable.not_not.1 h)
  exact ⟨q, hq⟩
 by_cases h3 : (mpart m 3).tmod 1000000 ≠ 0
 ·right; unfold nTo; rw [if_pos h3]
 by_cases h2 : (mpart m 2).tmod 1000000 ≠ 0
 ·right; unfold nTo; rw [if_neg h3]; unfold nTo; rw [if_pos h2]
 by_cases h1 : (mpart m 1).tmod 1000000 ≠ 0
 ·right; unfold nTo; rw [if_neg h3]; unfold nTo; rw [if_neg h2]; unfold nTo; rw [if_pos h1]
 by_cases h0 : (mpart m 0).tmod 1000000 ≠ 0
 ·right; unfold nTo; rw [if_neg h3]; unfold nTo; rw [if_neg h2]; unfold nTo; rw [if_neg h1]; unfold nTo; rw [if_pos h0]
 ·left
  refine ⟨?_, ?_⟩
  ·unfold nTo; rw [if_neg h3]; unfold nTo; rw [if_neg h2]; unfold nTo; rw [if_neg h1]; unfold nTo; rw [if_neg h0]; rfl
  ·obtain ⟨a, ha⟩ := dv h0
   obtain ⟨b, hb⟩ := dv h1
   obtain ⟨d, hd⟩ := dv h2
   obtain ⟨e, he⟩ := dv h3
   exact ⟨a, b, d, e, ha, hb, hd, he⟩
theorem mid_row {X r n : Int} (hn : (n = r ∧ ∃ k, X = 1000000 * k) ∨ n = r + 1) : -(1000000 * (n - r)) ≤ X - 1000000 * ((loOf X r + hiOf X r) / 2) ∧ X - 1000000 * ((loOf X r + hiOf X r) / 2) ≤ 1000000 * (n - r) := by
 unfold loOf hiOf upOf
 rcases hn with ⟨rfl, k, rfl⟩ | rfl
 ·have e1 : (1000000 * k - 1000000 * n) / 1000000 = k - n := by omega
  have e2 : -(-(1000000 * k + 1000000 * n) / 1000000) = k + n := by omega
  rw [e1, e2]
  omega
 ·omega
/-- A carried buoy has each place that a place of it may be. -/
theorem carried_has {m : Dm} {s g x y r sym : Int} {p q : Pt} (h1 : dmOk m = true) (hs : rootP (strOf m) s) (hg : rootP (2 * nTo m 4 * nTo m 4) g) (hr : 0 ≤ r) (h7 : (p.1 - x) * (p.1 - x) + (p.2 - y) * (p.2 - y) ≤ r * r)
  (hc : carB m (x, y) = true) (hd : dvOk 1 (midOf m (x, y)).1 (midOf m (x, y)).2 (grOf s r + g) sym = true) (hq : q.ok = true) (hf : fitB m p q = true) :
  coverD (midOf m (x, y)).1 (midOf m (x, y)).2 (grOf s r + g) q = true := by
 obtain ⟨_, _, _, _, hr0, _⟩ := dm_bd h1
 unfold fitB at hf
 rw [decide_eq_true_eq] at hf
 unfold dvOk at hd
 rw [Bool.and_eq_true, Bool.and_eq_true, decide_eq_true_eq] at hd
 refine cover_at hd.1.2.2 hd.2.1 hq ?_
 have hsr : 0 ≤ r * s := Int.mul_nonneg hr hs.1
 have hG : r * s ≤ 1000000 * grOf s r := by unfold grOf; omega
 have hS := hs.2.1
 unfold strOf mixOf at hS
 have hK := hg.2.1
 rw [Int.mul_assoc] at hK
 have hn := nTo_bd m 4
 have hX : ∀ {a b c : Int}, (∃ a' b', a = 1000000 * a' ∧ b = 1000000 * b') → ∃ k, atOf a b c (x, y) = 1000000 * k := fun {a b c} h => by
  obtain ⟨a', b', rfl, rfl⟩ := h
  refine ⟨a' * x + b' * y + c, ?_⟩
  unfold atOf
  grind
 have r1 : (nTo m 4 = m.r ∧ ∃ k, atOf m.a m.b m.c (x, y) = 1000000 * k) ∨ nTo m 4 = m.r + 1 := by
  rcases nTo_all m with ⟨e, a, b, d, e', ha, hb, hd, he⟩ | e
  ·exact .inl ⟨e, hX ⟨a, b, ha, hb⟩⟩
  ·exact .inr e
 have r2 : (nTo m 4 = m.r ∧ ∃ k, atOf m.d m.e m.f (x, y) = 1000000 * k) ∨ nTo m 4 = m.r + 1 := by
  rcases nTo_all m with ⟨e, a, b, d, e', ha, hb, hd, he⟩ | e
  ·exact .inl ⟨e, hX ⟨d, e', hd, he⟩⟩
  ·exact .inr e
 have m1 := mid_row r1
 have m2 := mid_row r2
 have em : midOf m (x, y) = ((loOf (atOf m.a m.b m.c (x, y)) m.r + hiOf (atOf m.a m.b m.c (x, y)) m.r) / 2, (loOf (atOf m.d m.e m.f (x, y)) m.r + hiOf (atOf m.d m.e m.f (x, y)) m.r) / 2) := by
  unfold midOf boxOf4
  rw [if_pos hc]
 rw [em]
 dsimp only
 generalize (loOf (atOf m.a m.b m.c (x, y)) m.r + hiOf (atOf m.a m.b m.c (x, y)) m.r) / 2 = mx at *
 generalize (loOf (atOf m.d m.e m.f (x, y)) m.r + hiOf (atOf m.d m.e m.f (x, y)) m.r) / 2 = my at *
 unfold atOf at m1 m2 hf
 dsimp only at m1 m2 hf
 have hG0 : 0 ≤ grOf s r := by unfold grOf; omega
 have := swung (a := m.a) (b := m.b) (c := m.c) (d := m.d) (e := m.e) (f := m.f) (n := nTo m 4) (res := m.r) (s := s) (k := g) (G := grOf s r) (r := r) (px := p.1) (py := p.2) (ax := x) (ay := y) (qx := q.1) (qy := q.2) (mx := mx) (my := my) hs.1 hg.1 hG0 hr hn.1 hr0
  (by omega) (by omega) (by omega) (by omega) hK hG h7 (by omega) (by omega) (by omega) (by omega) m1.1 m1.2 m2.1 m2.2
 exact this
end Go.Proofs.YtpfpamopmncifaaGreat
