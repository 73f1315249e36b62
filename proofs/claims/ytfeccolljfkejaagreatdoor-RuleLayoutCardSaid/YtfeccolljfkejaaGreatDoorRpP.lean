/- Rules printed and read again, in plain words. -/
import Derived.Test.YtfeccolljfkejaaGreatDoorRpI
set_option linter.unusedSimpArgs false
set_option linter.unusedVariables false
namespace Go.Proofs.YtfeccolljfkejaaGreatDoor
open Go.RowKit Go.Sort
theorem endOf_at {p : Int → Bool} {s : ByteArray} {i : Nat} {w r : List UInt8} (h : s.data.toList.drop i = w ++ r) (hw : ∀ b ∈ w, p (b.toNat : Int) = true) (hr : ∀ b t, r = b :: t → p (b.toNat : Int) = false) : endOf p s i = i + w.length := by
 unfold endOf
 rw [h, List.takeWhile_append_of_pos hw]
 have : r.takeWhile (fun b => p (b.toNat : Int)) = [] := by
  cases r with
  | nil => rfl
  | cons b t => rw [List.takeWhile_cons, hr b t rfl]; rfl
 rw [this, List.append_nil]
theorem drop_adv {s : ByteArray} {i : Nat} {w r : List UInt8} (h : s.data.toList.drop i = w ++ r) : s.data.toList.drop (i + w.length) = r := by
 have := congrArg (List.drop w.length) h
 rw [List.drop_drop, List.drop_left] at this
 exact this
theorem drop_one {s : ByteArray} {i : Nat} {b : UInt8} {r : List UInt8} (h : s.data.toList.drop i = b :: r) : s.data.toList.drop (i + 1) = r := drop_adv (w := [b]) h
theorem ba_of {x : ByteArray} {l : List UInt8} (h : x.data.toList = l) : x = ⟨l.toArray⟩ := by
 subst h
 cases x
 simp
theorem ext_at {s : ByteArray} {i : Nat} {w r : List UInt8} (h : s.data.toList.drop i = w ++ r) : s.extract i (i + w.length) = ⟨w.toArray⟩ := by
 refine ba_of ?_
 rw [ext_list, h, Nat.add_sub_cancel_left, List.take_left]
theorem at_lt {s : ByteArray} {i : Nat} {b : UInt8} {r : List UInt8} (h : s.data.toList.drop i = b :: r) : i < s.size := by
 have := congrArg List.length h
 rw [List.length_drop, ba_len, List.length_cons] at this
 omega
theorem bAt_at {s : ByteArray} {i : Nat} {b : UInt8} {r : List UInt8} (h : s.data.toList.drop i = b :: r) : bAt s i = (b.toNat : Int) := by
 have h1 := drop_at (at_lt h)
 rw [h] at h1
 injection h1 with h1 _
 unfold bAt
 rw [← h1]
theorem bl_letter {b : Int} (h : inR 97 122 b = true) : isBl b = false := by
 unfold inR at h
 rw [decide_eq_true_eq] at h
 unfold isBl
 rw [decide_eq_false_iff_not]
 omega
theorem word_at {ls : List ByteArray} {s : ByteArray} {i k : Nat} {pre w r : List UInt8} (hpre : ∀ b ∈ pre, isBl (b.toNat : Int) = true) (h : s.data.toList.drop i = pre ++ (w ++ r)) (hw0 : w ≠ []) (hw : ∀ b ∈ w, inR 97 122 (b.toNat : Int) = true) (hr : ∀ b t, r = b :: t → inR 97 122 (b.toNat : Int) = false) (hk : wIdx ls ⟨w.toArray⟩ = (k : Int)) : wordAt ls s i = .ok (k, i + pre.length) := by
 have e1 : endOf isBl s i = i + pre.length := endOf_at h hpre (fun b t e => by
  cases w with
  | nil => exact absurd rfl hw0
  | cons c w =>
   rw [List.cons_append] at e
   injection e with e _
   rw [← e]
   exact bl_letter (hw c (List.mem_cons_self ..)))
 have h2 := drop_adv h
 have e2 : endOf (inR 97 122) s (i + pre.length) = i + pre.length + w.length := endOf_at h2 hw hr
 have hl : 0 < w.length := List.length_pos_iff.2 hw0
 unfold wordAt
 rw [e1, e2, if_neg (by omega), ext_at h2, hk, if_neg (by omega)]
 simp
theorem u8 {k : Nat} (h : k < 256) : (UInt8.ofNat k).toNat = k := by
 rw [UInt8.toNat_ofNat']
 exact Nat.mod_eq_of_lt h
theorem dd_digs : ∀ (u : Nat), ∀ b ∈ Lib.decDigits u, 48 ≤ b.toNat ∧ b.toNat ≤ 57 := by
 intro u
 induction u using Nat.strongRecOn with
 | _ u ih =>
  intro b hb
  rw [Lib.decDigits] at hb
  split at hb
  ·rw [List.mem_singleton] at hb
   rw [hb, u8 (by omega)]
   omega
  ·rcases List.mem_append.1 hb with hb | hb
   ·exact ih _ (by omega) b hb
   ·rw [List.mem_singleton] at hb
    rw [hb, u8 (by omega)]
    omega
theorem dd_head (u : Nat) : ∃ b r, Lib.decDigits u = b :: r ∧ (b.toNat = 48 → u = 0) := by
 induction u using Nat.strongRecOn with
 | _ u ih =>
  rw [Lib.decDigits]
  split
  ·refine ⟨_, [], rfl, fun h => ?_⟩
   rw [u8 (by omega)] at h
   omega
  ·obtain ⟨b, r, h1, h2⟩ := ih (u / 10) (by omega)
   refine ⟨b, r ++ [UInt8.ofNat (48 + u % 10)], by rw [h1]; rfl, fun h => ?_⟩
   have := h2 h
   omega
theorem decFrom_snoc : ∀ (l : List UInt8) (acc m : Nat) (d : UInt8) (k : Nat), Lib.decFrom acc l = some m → Lib.digitVal d = some k → Lib.decFrom acc (l ++ [d]) = some (m * 10 + k)
 | [], acc, m, d, k, h, hd => by
  injection h with h
  subst h
  simp [Lib.decFrom, hd]
 | b :: l, acc, m, d, k, h, hd => by
  rw [List.cons_append]
  unfold Lib.decFrom at h ⊢
  cases hb : Lib.digitVal b with
  | none => rw [hb] at h; cases h
  | some x =>
   rw [hb] at h
   exact decFrom_snoc l _ m d k h hd
theorem dd_val (u : Nat) : Lib.decFrom 0 (Lib.decDigits u) = some u := by
 induction u using Nat.strongRecOn with
 | _ u ih =>
  have dv : ∀ k, k < 10 → Lib.digitVal (UInt8.ofNat (48 + k)) = some k := fun k hk => by
   unfold Lib.digitVal
   rw [u8 (by omega), if_pos (by omega)]
   congr 1
   omega
  rw [Lib.decDigits]
  split
  ·rename_i h
   unfold Lib.decFrom
   rw [dv u h]
   simp [Lib.decFrom]
  ·have := decFrom_snoc _ 0 _ _ _ (ih (u / 10) (by omega)) (dv (u % 10) (by omega))
   rw [this]
   congr 1
   omega
theorem atoi_dd (u : Nat) : Lib.atoi (Lib.decDigits u) = some (u : Int) := by
 obtain ⟨b, r, h, _⟩ := dd_head u
 have hb := dd_digs u b (by rw [h]; exact List.mem_cons_self ..)
 have n1 : (b == 45) = false := by
  rw [beq_eq_false_iff_ne]
  intro e
  rw [e] at hb
  exact absurd hb.1 (by decide)
 have n2 : (b == 43) = false := by
  rw [beq_eq_false_iff_ne]
  intro e
  rw [e] at hb
  exact absurd hb.1 (by decide)
 have hv := dd_val u
 rw [h] at hv ⊢
 simp only [Lib.atoi, n1, n2, Bool.false_eq_true, if_false]
 unfold Lib.decNat
 simp [hv]
theorem num_at {q : Nat} {s : ByteArray} {i : Nat} {n : Int} {r : List UInt8} (h : s.data.toList.drop i = Lib.itoa n ++ r) (h0 : 0 ≤ n ∧ n ≤ 100000) (hb : opLeast (q : Int) ≤ n ∧ n ≤ opMost (q : Int)) (hr : ∀ b t, r = b :: t → inR 48 57 (b.toNat : Int) = false) : numAt q s i = .ok (n, i + (Lib.itoa n).length) := by
 obtain ⟨u, rfl⟩ : ∃ u : Nat, n = (u : Int) := ⟨n.toNat, by omega⟩
 have hi := itoa_len h0.1 h0.2
 have e0 : Lib.itoa (u : Int) = Lib.decDigits u := by
  unfold Lib.itoa
  rw [if_neg (by omega)]
  simp
 rw [e0] at h hi ⊢
 have e1 : endOf (inR 48 57) s i = i + (Lib.decDigits u).length := endOf_at h (fun b hb => by
  have := dd_digs u b hb
  unfold inR
  rw [decide_eq_true_eq]
  omega) hr
 obtain ⟨b, t, hd, hz⟩ := dd_head u
 have hnB : numB ⟨(Lib.decDigits u).toArray⟩ = true := by
  unfold numB
  rw [decide_eq_true_eq, mk_size]
  refine ⟨by rw [hd, List.length_cons]; omega, by omega, ?_⟩
  by_cases h48 : b.toNat = 48
  ·left
   have := hz h48
   subst this
   rw [Lib.decDigits]
   rfl
  ·right
   have : bAt ⟨(Lib.decDigits u).toArray⟩ 0 = (b.toNat : Int) := bAt_at (r := t) (by rw [List.drop_zero]; exact hd)
   rw [this]
   omega
 have hnV : numV ⟨(Lib.decDigits u).toArray⟩ = (u : Int) := by
  unfold numV
  show (Lib.atoi (Lib.decDigits u)).getD 0 = _
  rw [atoi_dd]
  rfl
 unfold numAt
 rw [e1, ext_at h, if_pos hnB, hnV, if_pos hb]
theorem tail_at {s : ByteArray} {i : Nat} {r : List UInt8} (h : s.data.toList.drop i = 59 :: r) : tailAt s i = .ok (i + 1) := by
 have e1 : endOf isBl s i = i + ([] : List UInt8).length := endOf_at (w := []) h (fun b hb => by cases hb) (fun b t e => by
  injection e with e _
  rw [← e]
  rfl)
 rw [List.length_nil, Nat.add_zero] at e1
 unfold tailAt
 rw [e1, if_pos ⟨at_lt h, bAt_at h⟩]
theorem bl_one {s : ByteArray} {i : Nat} {b : UInt8} {r : List UInt8} (h : s.data.toList.drop i = 32 :: b :: r) (hb : isBl (b.toNat : Int) = false) : endOf isBl s i = i + 1 :=
 endOf_at (w := [32]) (r := b :: r) h (fun c hc => by rw [List.mem_singleton] at hc; rw [hc]; rfl) (fun c t e => by
  injection e with e _
  rw [← e]
  exact hb)
theorem bl_none {s : ByteArray} {i : Nat} {b : UInt8} {r : List UInt8} (h : s.data.toList.drop i = b :: r) (hb : isBl (b.toNat : Int) = false) : endOf isBl s i = i :=
 endOf_at (w := []) h (fun c hc => by cases hc) (fun c t e => by
  injection e with e _
  rw [← e]
  exact hb)
theorem rest_at {q kk : Nat} {s : ByteArray} {j : Nat} {n : Int} {post : List UInt8} (hq : q ≠ 5) (h0 : 0 ≤ n ∧ n ≤ 100000) (hb : opLeast (q : Int) ≤ n ∧ n ≤ opMost (q : Int)) (h : s.data.toList.drop j = 32 :: (Lib.itoa n ++ (59 :: 10 :: post))) : ∃ b, restAt q kk s j = .ok (((q : Int), (kk : Int), n), b) ∧ s.data.toList.drop b = 10 :: post := by
 have hi : ∃ b r, Lib.itoa n = b :: r ∧ isBl (b.toNat : Int) = false := by
  have e0 : Lib.itoa n = Lib.decDigits n.toNat := by
   unfold Lib.itoa
   rw [if_neg (by omega)]
  obtain ⟨b, r, h1, _⟩ := dd_head n.toNat
  have hd := dd_digs n.toNat b (by rw [h1]; exact List.mem_cons_self ..)
  refine ⟨b, r, by rw [e0, h1], ?_⟩
  unfold isBl
  rw [decide_eq_false_iff_not]
  omega
 obtain ⟨b, r, h1, h2⟩ := hi
 have e1 : endOf isBl s j = j + 1 := bl_one (b := b) (r := r ++ (59 :: 10 :: post)) (by rw [h, h1]; rfl) h2
 have h3 := drop_one h
 have e2 := num_at (q := q) h3 h0 hb (fun b t e => by
  injection e with e _
  rw [← e]
  rfl)
 have h4 := drop_adv h3
 refine ⟨j + 1 + (Lib.itoa n).length + 1, ?_, drop_one h4⟩
 unfold restAt
 rw [if_neg hq, e1, e2]
 simp only [tail_at h4]
theorem rest5 {kk : Nat} {s : ByteArray} {j : Nat} {post : List UInt8} (h : s.data.toList.drop j = 59 :: 10 :: post) : restAt 5 kk s j = .ok ((5, (kk : Int), 0), j + 1) ∧ s.data.toList.drop (j + 1) = 10 :: post := by
 refine ⟨?_, drop_one h⟩
 unfold restAt
 rw [if_pos rfl, bl_none h rfl, tail_at h]
theorem kd_fact (kk : Nat) (h : 1 ≤ kk ∧ kk ≤ 6) : (kdA kk).data.toList ≠ [] ∧ (∀ b ∈ (kdA kk).data.toList, inR 97 122 (b.toNat : Int) = true) ∧ wIdx kdW ⟨(kdA kk).data.toList.toArray⟩ = (kk : Int) := by
 have hc : kk = 1 ∨ kk = 2 ∨ kk = 3 ∨ kk = 4 ∨ kk = 5 ∨ kk = 6 := by omega
 rcases hc with rfl | rfl | rfl | rfl | rfl | rfl <;> exact ⟨by decide, by decide, by decide⟩
theorem op_fact (q : Nat) (h : 1 ≤ q ∧ q ≤ 5) : (opA q).data.toList ≠ [] ∧ (∀ b ∈ (opA q).data.toList, inR 97 122 (b.toNat : Int) = true) ∧ wIdx opW ⟨(opA q).data.toList.toArray⟩ = (q : Int) := by
 rcases five h with rfl | rfl | rfl | rfl | rfl <;> exact ⟨by decide, by decide, by decide⟩
theorem kind_at {q kk : Nat} {s : ByteArray} {j : Nat} {r : List UInt8} (hk : 1 ≤ kk ∧ kk ≤ 6) (hc : (opKinds (q : Int)).contains (kk : Int) = true) (h : s.data.toList.drop j = 32 :: ((kdA kk).data.toList ++ r)) (hr : ∀ b t, r = b :: t → inR 97 122 (b.toNat : Int) = false) : kindAt q s j = .ok (kk, j + 1 + (kdA kk).size) := by
 obtain ⟨f1, f2, f3⟩ := kd_fact kk hk
 have e1 : wordAt kdW s j = .ok (kk, j + 1) := word_at (pre := [32]) (fun c hc => by rw [List.mem_singleton] at hc; rw [hc]; rfl) h f1 f2 hr f3
 unfold kindAt
 rw [e1]
 simp only [hc, if_true]
theorem line_eq (q kk : Nat) (n : Int) (post : List UInt8) : lineL ((q : Int), (kk : Int), n) ++ post = (opA q).data.toList ++ ((if (q : Int) = 1 then [] else 32 :: (kdA kk).data.toList) ++ ((if (q : Int) = 5 then [] else 32 :: Lib.itoa n) ++ (59 :: 10 :: post))) := by
 unfold lineL
 simp
theorem rule_at {s : ByteArray} {i : Nat} {r : Ru} {post : List UInt8} (hok : r.ok = true) (h : s.data.toList.drop i = lineL r ++ post) : ∃ b, ruleAt s i = .ok (r, b) ∧ s.data.toList.drop b = 10 :: post := by
 obtain ⟨o, kd, n⟩ := r
 have hp := rok_parts hok
 dsimp only at hp
 obtain ⟨ho, hn, hkd, hk1, hk2, hn5⟩ := hp
 have hraw : ruleOk o kd n = true := hok
 unfold ruleOk at hraw
 rw [Bool.and_eq_true, Bool.and_eq_true, decide_eq_true_eq, decide_eq_true_eq] at hraw
 obtain ⟨_, hct, hrg⟩ := hraw
 obtain ⟨q, rfl⟩ : ∃ q : Nat, o = (q : Int) := ⟨o.toNat, by omega⟩
 obtain ⟨kk, rfl⟩ : ∃ q : Nat, kd = (q : Int) := ⟨kd.toNat, by omega⟩
 have hq : 1 ≤ q ∧ q ≤ 5 := by omega
 obtain ⟨f1, f2, f3⟩ := op_fact q hq
 rw [line_eq] at h
 have e1 : wordAt opW s i = .ok (q, i) := word_at (pre := []) (fun c hc => by cases hc) h f1 f2 (fun b t e => by
  by_cases hq1 : (q : Int) = 1
  ·rw [if_pos hq1] at e
   by_cases hq5 : (q : Int) = 5
   ·omega
   ·rw [if_neg hq5, List.nil_append, List.cons_append] at e
    injection e with e _
    rw [← e]
    rfl
  ·rw [if_neg hq1, List.cons_append] at e
   injection e with e _
   rw [← e]
   rfl) f3
 have h2 := drop_adv h
 rw [ba_len] at h2
 unfold ruleAt
 rw [e1]
 dsimp only
 by_cases hq1 : q = 1
 ·subst hq1
  have hkk : kk = 0 := by have := hk1 rfl; omega
  subst hkk
  rw [if_pos (show ((1 : Nat) : Int) = 1 from rfl), if_neg (show ¬ ((1 : Nat) : Int) = 5 by decide), List.nil_append, List.cons_append] at h2
  rw [if_pos rfl]
  exact rest_at (by decide) hn hrg h2
 ·have hq1' : ¬ (q : Int) = 1 := by omega
  have hkk : 1 ≤ kk ∧ kk ≤ 6 := by have := hk2 hq1'; omega
  rw [if_neg hq1', List.cons_append] at h2
  rw [if_neg hq1]
  by_cases hq5 : q = 5
  ·subst hq5
   obtain rfl : n = 0 := hn5 rfl
   rw [if_pos (show ((5 : Nat) : Int) = 5 from rfl), List.nil_append] at h2
   have e2 := kind_at hkk hct h2 (fun b t e => by
    injection e with e _
    rw [← e]
    rfl)
   have h3 := drop_adv (drop_one h2)
   rw [ba_len] at h3
   rw [e2]
   obtain ⟨e3, h4⟩ := rest5 (kk := kk) h3
   exact ⟨_, e3, h4⟩
  ·rw [if_neg (by omega), List.cons_append] at h2
   have e2 := kind_at hkk hct h2 (fun b t e => by
    injection e with e _
    rw [← e]
    rfl)
   have h3 := drop_adv (drop_one h2)
   rw [ba_len] at h3
   rw [e2]
   exact rest_at hq5 hn hrg h3
theorem line_head {r : Ru} (hok : r.ok = true) : ∃ b t, lineL r = b :: t ∧ isBl (b.toNat : Int) = false := by
 obtain ⟨o, kd, n⟩ := r
 obtain ⟨ho, _⟩ := rok_parts hok
 dsimp only at ho
 obtain ⟨f1, f2, _⟩ := op_fact o.toNat (by omega)
 cases hw : (opA o.toNat).data.toList with
 | nil => exact absurd hw f1
 | cons b t =>
  refine ⟨b, _, by unfold lineL; rw [hw, List.cons_append], bl_letter (f2 b (by rw [hw]; exact List.mem_cons_self ..))⟩
theorem parse_lines : ∀ (rs : List Ru) (f : Nat) (s : ByteArray) (i : Nat) (out : List Ru) (nl : List UInt8), (nl = [] ∨ nl = [10]) → (∀ r ∈ rs, r.ok = true) → out.length + rs.length ≤ 40 → s.data.toList.drop i = nl ++ printL rs → rs.length < f → parseGo f s i out = (out ++ rs, 0, 0)
 | rs, 0, _, _, _, _, _, _, _, _, h => by omega
 | [], f + 1, s, i, out, nl, hnl, _, _, h, _ => by
  have hb : ∀ b ∈ nl, isBl (b.toNat : Int) = true := fun b hb => by
   rcases hnl with rfl | rfl
   ·cases hb
   ·rw [List.mem_singleton] at hb; rw [hb]; rfl
  have e1 : endOf isBl s i = i + nl.length := endOf_at h hb (fun b t e => by cases e)
  have hl := congrArg List.length h
  rw [List.length_drop, ba_len, List.length_append] at hl
  have h0 : (printL []).length = 0 := rfl
  unfold parseGo
  rw [e1, if_neg (by omega), List.append_nil]
 | r :: rs, f + 1, s, i, out, nl, hnl, hok, hlen, h, hf => by
  have hb : ∀ b ∈ nl, isBl (b.toNat : Int) = true := fun b hb => by
   rcases hnl with rfl | rfl
   ·cases hb
   ·rw [List.mem_singleton] at hb; rw [hb]; rfl
  have hr := hok r (List.mem_cons_self ..)
  obtain ⟨b, t, h1, h2⟩ := line_head hr
  have hpl : printL (r :: rs) = lineL r ++ printL rs := by unfold printL; rw [List.flatMap_cons]
  rw [hpl] at h
  have e1 : endOf isBl s i = i + nl.length := endOf_at h hb (fun c u e => by
   rw [h1, List.cons_append] at e
   injection e with e _
   rw [← e]
   exact h2)
  have h3 := drop_adv h
  obtain ⟨b2, e2, h4⟩ := rule_at hr h3
  rw [List.length_cons] at hlen hf
  unfold parseGo
  rw [e1, if_pos (at_lt (b := b) (r := t ++ printL rs) (by rw [h3, h1]; rfl)), if_neg (by omega), e2]
  dsimp only
  rw [parse_lines rs f s b2 (out ++ [r]) [10] (.inr rfl) (fun x hx => hok x (List.mem_cons_of_mem _ hx)) (by simp; omega) (by rw [h4]; rfl) (by omega)]
  simp
theorem line_pos (r : Ru) : 2 ≤ (lineL r).length := by
 unfold lineL
 simp only [List.length_append, List.length_cons, List.length_nil]
 omega
theorem print_ge : ∀ (l : List Ru), l.length ≤ (printL l).length
 | [] => by simp [printL]
 | r :: l => by
  have h1 := line_pos r
  have h2 := print_ge l
  unfold printL at *
  rw [List.flatMap_cons, List.length_append, List.length_cons]
  omega
/-- What is printed is read back. -/
theorem parse_print {rs : List Ru} (h : rsOk rs = true) : parseOf (printOf rs).1 = (rs, 0, 0) := by
 obtain ⟨h1, h2⟩ := ru_memQ h
 unfold printOf
 rw [if_pos h]
 dsimp only
 have hl := print_len h2
 have hs : (⟨(printL rs).toArray⟩ : ByteArray).size = (printL rs).length := rfl
 unfold parseOf
 rw [hs, if_neg (by omega)]
 have := parse_lines rs ((printL rs).length + 1) ⟨(printL rs).toArray⟩ 0 [] [] (.inl rfl) h2 (by simpa using h1) (by simp) (by have := print_ge rs; omega)
 simpa using this
theorem num_ok {q : Nat} {s : ByteArray} {i j : Nat} {n : Int} (h : numAt q s i = .ok (n, j)) : opLeast (q : Int) ≤ n ∧ n ≤ opMost (q : Int) := by
 unfold numAt at h
 split at h
 ·split at h
  ·rename_i h1
   injection h with h
   injection h with h2 _
   rw [← h2]
   exact h1
  ·cases h
 ·cases h
theorem rest_ok {q k : Nat} {s : ByteArray} {i b : Nat} {r : Ru} (hq : 1 ≤ q ∧ q ≤ 5) (hk : (opKinds (q : Int)).contains (k : Int) = true) (h : restAt q k s i = .ok (r, b)) : r.ok = true := by
 have mk : ∀ n : Int, opLeast (q : Int) ≤ n ∧ n ≤ opMost (q : Int) → ruleOk (q : Int) (k : Int) n = true := fun n hn => by
  unfold ruleOk
  rw [Bool.and_eq_true, Bool.and_eq_true, decide_eq_true_eq, decide_eq_true_eq]
  exact ⟨by omega, hk, hn⟩
 unfold restAt at h
 split at h
 ·rename_i h5
  split at h
  ·cases h
  ·injection h with h
   injection h with h _
   rw [← h]
   subst h5
   exact mk 0 ⟨by decide, by decide⟩
 ·split at h
  ·cases h
  ·rename_i n j h1
   split at h
   ·cases h
   ·injection h with h
    injection h with h _
    rw [← h]
    exact mk n (num_ok h1)
theorem rule_ok {s : ByteArray} {i b : Nat} {r : Ru} (hi : i ≤ s.size) (h : ruleAt s i = .ok (r, b)) : r.ok = true := by
 unfold ruleAt at h
 split at h
 ·cases h
 ·rename_i q a h1
  obtain ⟨hq, _, _⟩ := op_ok hi h1
  split at h
  ·rename_i h2
   subst h2
   exact rest_ok (q := 1) (k := 0) (by omega) (by decide) h
  ·split at h
   ·cases h
   ·rename_i k j h2
    unfold kindAt at h2
    split at h2
    ·cases h2
    ·split at h2
     ·rename_i h3
      injection h2 with h2
      injection h2 with h4 _
      subst h4
      exact rest_ok hq h3 h
     ·cases h2
theorem word_err {ls : List ByteArray} {s : ByteArray} {i p : Nat} {e : Int} (h : wordAt ls s i = .error (p, e)) : e ≠ 0 := by
 unfold wordAt at h
 split at h
 ·injection h with h; injection h with _ h; omega
 ·split at h
  ·injection h with h; injection h with _ h; omega
  ·cases h
theorem tail_err {s : ByteArray} {i p : Nat} {e : Int} (h : tailAt s i = .error (p, e)) : e ≠ 0 := by
 unfold tailAt at h
 split at h
 ·cases h
 ·injection h with h; injection h with _ h; omega
theorem rest_err {q k : Nat} {s : ByteArray} {i p : Nat} {e : Int} (h : restAt q k s i = .error (p, e)) : e ≠ 0 := by
 unfold restAt at h
 split at h
 ·split at h
  ·rename_i h1
   injection h with h
   subst h
   exact tail_err h1
  ·cases h
 ·split at h
  ·rename_i h1
   injection h with h
   subst h
   unfold numAt at h1
   split at h1
   ·split at h1
    ·cases h1
    ·injection h1 with h1; injection h1 with _ h1; omega
   ·injection h1 with h1; injection h1 with _ h1; omega
  ·split at h
   ·rename_i h1
    injection h with h
    subst h
    exact tail_err h1
   ·cases h
theorem rule_err {s : ByteArray} {i p : Nat} {e : Int} (h : ruleAt s i = .error (p, e)) : e ≠ 0 := by
 unfold ruleAt at h
 split at h
 ·rename_i h1
  injection h with h
  subst h
  exact word_err h1
 ·split at h
  ·exact rest_err h
  ·split at h
   ·rename_i h2
    injection h with h
    subst h
    unfold kindAt at h2
    split at h2
    ·rename_i h3
     injection h2 with h2
     subst h2
     exact word_err h3
    ·split at h2
     ·cases h2
     ·injection h2 with h2; injection h2 with _ h2; omega
   ·exact rest_err h
theorem over_err (s : ByteArray) (a : Nat) : overAt s a ≠ 0 := by
 unfold overAt
 split <;> omega
theorem parse_oks : ∀ (f : Nat) (s : ByteArray) (i : Nat) (out : List Ru), i ≤ s.size → (∀ r ∈ out, r.ok = true) → out.length ≤ 40 → ((parseGo f s i out).2.2 = 0 → ∀ r ∈ (parseGo f s i out).1, r.ok = true) ∧ ((parseGo f s i out).2.2 ≠ 0 → (parseGo f s i out).1 = [])
 | 0, _, _, _, _, _, _ => by simp [parseGo]
 | f + 1, s, i, out, hi, ho, hl => by
  have he := endOf_le (p := isBl) hi
  unfold parseGo
  split
  ·split
   ·exact ⟨fun h => absurd h (over_err s _), fun _ => rfl⟩
   ·rename_i h1 h2
    split
    ·rename_i p e h3
     exact ⟨fun h => absurd h (rule_err h3), fun _ => rfl⟩
    ·rename_i r b h3
     exact parse_oks f s b (out ++ [r]) (rule_prog h3).2 (fun x hx => by
      rcases List.mem_append.1 hx with hx | hx
      ·exact ho x hx
      ·rw [List.mem_singleton] at hx
       rw [hx]
       exact rule_ok he h3) (by simp; omega)
  ·exact ⟨fun _ => ho, fun h => absurd rfl h⟩
theorem rs_mkQ {rs : List Ru} (h : rs.length ≤ 40) (h2 : ∀ r ∈ rs, r.ok = true) : rsOk rs = true := by
 unfold rsOk okTo
 rw [decide_eq_true h, Bool.true_and, List.all_eq_true]
 intro k hk
 exact h2 _ (List.mem_of_getElem? (ruAt_get (List.mem_range.1 hk)))
theorem parse_ok {s : ByteArray} (h : (parseOf s).2.2 = 0) : rsOk (parseOf s).1 = true := by
 unfold parseOf at *
 split at h
 ·exact absurd h (by decide)
 ·rename_i h8
  rw [if_neg h8]
  exact rs_mkQ (parse_len _ _ _ _ (by simp)) ((parse_oks _ s 0 [] (Nat.zero_le _) (fun r hr => by cases hr) (by simp)).1 h)
theorem parse_none {s : ByteArray} (h : (parseOf s).2.2 ≠ 0) : (parseOf s).1 = [] := by
 unfold parseOf at *
 split at h
 ·rename_i h8
  rw [if_pos h8]
 ·rename_i h8
  rw [if_neg h8]
  exact (parse_oks _ s 0 [] (Nat.zero_le _) (fun r hr => by cases hr) (by simp)).2 h
theorem parse_le {s : ByteArray} : (parseOf s).1.length ≤ 40 := by
 unfold parseOf
 split
 ·simp
 ·exact parse_len _ _ _ _ (by simp)
end Go.Proofs.YtfeccolljfkejaaGreatDoor
