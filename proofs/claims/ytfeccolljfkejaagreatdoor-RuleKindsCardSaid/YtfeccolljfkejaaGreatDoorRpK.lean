/- Two rules for different kinds commute (plain). -/
import Derived.Test.YtfeccolljfkejaaGreatDoorRpR
set_option linter.unusedSimpArgs false
set_option linter.unusedVariables false
namespace Go.Proofs.YtfeccolljfkejaaGreatDoor
open Go.RowKit Go.Sort
/-- What a rule makes of its kind's own features. -/
def ruAct (o k n : Int) (ds : List FV) : List FV := if o = 3 then keptTo n (ds.mergeSort leD) (ds.mergeSort leD).length else ds.map (chg o k n)
theorem ap_perm (o k n : Int) (fs : List FV) : (applyL o k n fs).Perm (othersOf k fs ++ ruAct o k n (fs.filter (isKind k))) := by
 unfold applyL ruAct
 by_cases h3 : o = 3
 ·rw [if_pos h3, if_pos h3, chg_none (.inr h3)]
  exact List.mergeSort_perm _ _
 ·rw [if_neg h3, if_neg h3]
  have e1 : (othersOf k fs).map (chg o k n) = othersOf k fs := by
   refine (List.map_congr_left fun f hf => ?_).trans (List.map_id _)
   have := (List.mem_filter.1 hf).2
   unfold chg
   rw [if_neg (by unfold isKind at this; simpa using this)]
   rfl
  have h : (fs.map (chg o k n)).Perm ((fs.filter (fun f => !isKind k f) ++ fs.filter (isKind k)).map (chg o k n)) := by
   refine List.Perm.map _ ?_
   exact ((List.filter_append_perm (isKind k) fs).symm.trans List.perm_append_comm)
  rw [List.map_append] at h
  have e2 : (fs.filter (fun f => !isKind k f)).map (chg o k n) = othersOf k fs := e1
  rw [e2] at h
  exact h
theorem chg_id (o k n : Int) (f : FV) : (chg o k n f).id = f.id := by
 unfold chg changeF
 split
 ·split <;> (try split) <;> (try split) <;> rfl
 ·rfl
theorem chg_kd (o k n : Int) (f : FV) : (chg o k n f).kind = f.kind := by
 unfold chg changeF
 split
 ·split <;> (try split) <;> (try split) <;> rfl
 ·rfl
theorem filt_ids {p : FV → Bool} {fs : List FV} (h : (fs.map FV.id).Nodup) : ((fs.filter p).map FV.id).Nodup := h.sublist ((List.filter_sublist).map FV.id)
/-- The kind's own behind the rule: their kind, and ids of theirs, each once. -/
theorem act_facts {o k n : Int} {fs : List FV} (hn : (fs.map FV.id).Nodup) : (∀ g ∈ ruAct o k n (fs.filter (isKind k)), g.kind = k ∧ ∃ f ∈ fs, f.kind = k ∧ f.id = g.id) ∧ ((ruAct o k n (fs.filter (isKind k))).map FV.id).Nodup := by
 unfold ruAct
 by_cases h3 : o = 3
 ·rw [if_pos h3]
  obtain ⟨f1, _, _⟩ := kept_facts k n fs
  have hs := kept_ky n (discsOf k fs) (discsOf k fs).length (Nat.le_refl _)
  rw [List.take_length] at hs
  refine ⟨fun g hg => ?_, ?_⟩
  ·obtain ⟨f, hf, h1, h2⟩ := f1 g hg
   have e1 : g.kind = f.kind := congrArg (fun x => x.2.1) h2
   have e2 : g.id = f.id := congrArg (fun x => x.1) h2
   exact ⟨e1.trans h1, f, hf, h1, e2.symm⟩
  ·have hsub := hs.map (fun x : Int × Int × Int × Int × Int => x.1)
   rw [List.map_map, List.map_map] at hsub
   have hd : ((discsOf k fs).map FV.id).Nodup := ((List.mergeSort_perm _ _).map FV.id).nodup_iff.2 (filt_ids hn)
   exact hd.sublist hsub
 ·rw [if_neg h3]
  refine ⟨fun g hg => ?_, ?_⟩
  ·obtain ⟨f, hf, rfl⟩ := List.mem_map.1 hg
   obtain ⟨h1, h2⟩ := List.mem_filter.1 hf
   have hk : f.kind = k := by simpa [isKind] using h2
   exact ⟨(chg_kd o k n f).trans hk, f, h1, hk, (chg_id o k n f).symm⟩
  ·rw [List.map_map]
   have e : (FV.id ∘ chg o k n) = FV.id := by funext f; exact chg_id o k n f
   rw [e]
   exact filt_ids hn
theorem ap_ids {o k n : Int} {fs : List FV} (hn : (fs.map FV.id).Nodup) : ((applyL o k n fs).map FV.id).Nodup := by
 refine ((ap_perm o k n fs).map FV.id).nodup_iff.2 ?_
 obtain ⟨f1, f2⟩ := act_facts (o := o) (k := k) (n := n) hn
 rw [List.map_append, List.nodup_append]
 refine ⟨filt_ids hn, f2, fun a ha b hb e => ?_⟩
 obtain ⟨x, hx, rfl⟩ := List.mem_map.1 ha
 obtain ⟨y, hy, rfl⟩ := List.mem_map.1 hb
 obtain ⟨h1, h2⟩ := List.mem_filter.1 hx
 obtain ⟨_, f, hf, hk, he⟩ := f1 y hy
 have := id_inj hn x h1 f hf (e.trans he.symm)
 rw [this] at h2
 simp [isKind, hk] at h2
theorem ap_sorted {o k n : Int} {fs : List FV} (hs : fs.Pairwise fun a b => leI a b = true) : (applyL o k n fs).Pairwise fun a b => leI a b = true := by
 unfold applyL
 by_cases h3 : o = 3
 ·rw [if_pos h3, chg_none (.inr h3)]
  unfold thinOf
  refine List.pairwise_mergeSort (fun a b c => sortI_trans a b c) (fun a b => ?_) _
  rcases sortI_total a b with h | h <;> simp [h]
 ·rw [if_neg h3, List.pairwise_map]
  exact hs.imp fun {a b} h => by
   rw [leI_iff] at *
   rw [chg_id, chg_id]
   exact h
theorem sorted_eq {l d : List FV} (hn : (l.map FV.id).Nodup) (hp : d.Perm l) (hd : d.Pairwise fun a b => leI a b = true) (hl : l.Pairwise fun a b => leI a b = true) : d = l :=
 (sort_uniq sortI_id sortI_trans sortI_total hn hp hd).trans (sort_uniq sortI_id sortI_trans sortI_total hn (List.Perm.refl _) hl).symm
/-- A rule leaves another kind's own as they are. -/
theorem ap_other {o k n k' : Int} {fs : List FV} (hk : k ≠ k') (hn : (fs.map FV.id).Nodup) (hs : fs.Pairwise fun a b => leI a b = true) : (applyL o k n fs).filter (isKind k') = fs.filter (isKind k') := by
 refine sorted_eq (filt_ids hn) ?_ ((ap_sorted hs).sublist List.filter_sublist) (hs.sublist List.filter_sublist)
 have h := (ap_perm o k n fs).filter (isKind k')
 rw [List.filter_append] at h
 have e1 : (ruAct o k n (fs.filter (isKind k))).filter (isKind k') = [] := List.filter_eq_nil_iff.2 fun g hg => by
  have := ((act_facts (o := o) (k := k) (n := n) hn).1 g hg).1
  simp [isKind, this, hk]
 have e2 : (othersOf k fs).filter (isKind k') = fs.filter (isKind k') := by
  unfold othersOf
  rw [List.filter_filter]
  refine List.filter_congr fun f _ => ?_
  by_cases hf : f.kind = k'
  ·simp [isKind, hf, Ne.symm hk]
  ·simp [isKind, hf]
 rw [e1, e2, List.append_nil] at h
 exact h
/-- All other features behind a rule. -/
theorem ap_rest {o k n : Int} {fs : List FV} (hn : (fs.map FV.id).Nodup) : (othersOf k (applyL o k n fs)).Perm (othersOf k fs) := by
 have h := (ap_perm o k n fs).filter (fun f => !isKind k f)
 rw [List.filter_append] at h
 have e1 : (ruAct o k n (fs.filter (isKind k))).filter (fun f => !isKind k f) = [] := List.filter_eq_nil_iff.2 fun g hg => by
  have := ((act_facts (o := o) (k := k) (n := n) hn).1 g hg).1
  simp [isKind, this]
 have e2 : (othersOf k fs).filter (fun f => !isKind k f) = othersOf k fs := List.filter_eq_self.2 fun g hg => (List.mem_filter.1 hg).2
 rw [e1, e2, List.append_nil] at h
 exact h
theorem two_perm {o k n o' k' n' : Int} {fs : List FV} (hk : k ≠ k') (hn : (fs.map FV.id).Nodup) (hs : fs.Pairwise fun a b => leI a b = true) :
  (applyL o' k' n' (applyL o k n fs)).Perm (othersOf k' (othersOf k fs) ++ (ruAct o k n (fs.filter (isKind k)) ++ ruAct o' k' n' (fs.filter (isKind k')))) := by
 refine (ap_perm o' k' n' _).trans ?_
 rw [ap_other hk hn hs, ← List.append_assoc]
 refine List.Perm.append_right _ ?_
 have h := (ap_perm o k n fs).filter (fun f => !isKind k' f)
 rw [List.filter_append] at h
 have e1 : (ruAct o k n (fs.filter (isKind k))).filter (fun f => !isKind k' f) = ruAct o k n (fs.filter (isKind k)) := List.filter_eq_self.2 fun g hg => by
  have := ((act_facts (o := o) (k := k) (n := n) hn).1 g hg).1
  simp [isKind, this, hk]
 rw [e1] at h
 exact h
/-- Both orders lead to the same list. -/
theorem two_comm {o k n o' k' n' : Int} {fs : List FV} (hk : k ≠ k') (hn : (fs.map FV.id).Nodup) (hs : fs.Pairwise fun a b => leI a b = true) :
  applyL o' k' n' (applyL o k n fs) = applyL o k n (applyL o' k' n' fs) := by
 refine sorted_eq (ap_ids (ap_ids hn)) ?_ (ap_sorted (ap_sorted hs)) (ap_sorted (ap_sorted hs))
 refine (two_perm hk hn hs).trans ((two_perm (Ne.symm hk) hn hs).trans ?_).symm
 have e : othersOf k (othersOf k' fs) = othersOf k' (othersOf k fs) := by
  unfold othersOf
  rw [List.filter_filter, List.filter_filter]
  exact List.filter_congr fun f _ => Bool.and_comm _ _
 rw [e]
 exact List.Perm.append_left _ List.perm_append_comm
theorem fl_ids {fs : List FV} (h : FList fs = true) : (fs.map FV.id).Nodup ∧ fs.Pairwise fun a b => leI a b = true := by
 have h1 := (list_iff.1 h).1
 refine ⟨?_, h1.imp fun h => by rw [leI_iff]; omega⟩
 rw [List.Nodup, List.pairwise_map]
 exact h1.imp fun h e => by omega
/-- A list behind a rule is a list if its kind's own are valid. -/
theorem fl_ap {o k n : Int} {fs : List FV} (h : FList fs = true) : FList (applyL o k n fs) = true ↔ ∀ g ∈ ruAct o k n (fs.filter (isKind k)), FValid g = true := by
 obtain ⟨hn, hs⟩ := fl_ids h
 have hp := ap_perm o k n fs
 constructor
 ·exact fun h2 g hg => list_valid h2 g (hp.mem_iff.2 (List.mem_append.2 (.inr hg)))
 ·intro hv
  rw [list_iff]
  refine ⟨?_, fun g hg => ?_, ?_⟩
  ·have h1 := ap_ids (o := o) (k := k) (n := n) hn
   have h2 := ap_sorted (o := o) (k := k) (n := n) hs
   rw [List.Nodup, List.pairwise_map] at h1
   exact h1.imp₂ (fun {a b} e1 e2 => by rw [leI_iff] at e2; omega) h2
  ·rcases List.mem_append.1 (hp.mem_iff.1 hg) with h3 | h3
   ·exact list_valid h g ((List.mem_filter.1 h3).1)
   ·exact hv g h3
  ·have h4 := list_len h
   unfold applyL
   rw [List.length_map]
   split
   ·exact Nat.le_trans (thin_len k n fs) h4
   ·exact h4
/-- The law RuleKinds, its first half, in plain words. -/
theorem run_two {r s : Ru} {fs : List FV} (hk : r.2.1 ≠ s.2.1) (hr : ruleOk r.1 r.2.1 r.2.2 = true) (hs : ruleOk s.1 s.2.1 s.2.2 = true) : runOf [r, s] fs = runOf [s, r] fs := by
 unfold runOf
 have k1 : rsOk [r, s] = rsOk [s, r] := by
  unfold rsOk okTo
  simp [ruAt, List.range_succ, Bool.and_comm]
 rw [k1]
 split
 ·rename_i hc
  rw [Bool.and_eq_true] at hc
  obtain ⟨hn, hso⟩ := fl_ids hc.2
  have hcm := two_comm (o := r.1) (n := r.2.2) (o' := s.1) (n' := s.2.2) hk hn hso
  show (runStep (runStep (fs, 0) r) s) = (runStep (runStep (fs, 0) s) r)
  have one : ∀ q : Ru, ruleOk q.1 q.2.1 q.2.2 = true → ∀ l : List FV, FList l = true → runStep (l, 0) q = if FList (applyL q.1 q.2.1 q.2.2 l) = true then (applyL q.1 q.2.1 q.2.2 l, 0) else ([], 3) := fun q hq l hl => by
   unfold runStep applyOf
   rw [if_pos rfl, if_pos (by rw [hq, hl]; rfl)]
  rw [one r hr fs hc.2, one s hs fs hc.2]
  have v1 : ∀ l, FList (applyL r.1 r.2.1 r.2.2 l) = true → True := fun _ _ => trivial
  by_cases h1 : FList (applyL r.1 r.2.1 r.2.2 fs) = true
  ·rw [if_pos h1, one s hs _ h1]
   have h1' := (fl_ap h1 (o := s.1) (k := s.2.1) (n := s.2.2))
   rw [ap_other hk hn hso, ← fl_ap hc.2] at h1'
   by_cases h2 : FList (applyL s.1 s.2.1 s.2.2 fs) = true
   ·rw [if_pos h2, if_pos (h1'.2 h2), one r hr _ h2, ← hcm, if_pos (h1'.2 h2)]
   ·rw [if_neg h2, if_neg (fun h => h2 (h1'.1 h))]
    rfl
  ·rw [if_neg h1]
   by_cases h2 : FList (applyL s.1 s.2.1 s.2.2 fs) = true
   ·have h1' := (fl_ap h2 (o := r.1) (k := r.2.1) (n := r.2.2))
    rw [ap_other (Ne.symm hk) hn hso, ← fl_ap hc.2] at h1'
    rw [if_pos h2, one r hr _ h2, if_neg (fun h => h1 (h1'.1 h))]
    rfl
   ·rw [if_neg h2]
    rfl
 ·rfl
/-- The second half: features of other kinds stay. -/
theorem one_stay {o k n : Int} {fs : List FV} (h0 : (applyOf o k n fs).2 = 0) {f : FV} (hf : f ∈ fs) (hk : f.kind ≠ k) : f ∈ (applyOf o k n fs).1 := by
 unfold applyOf at h0 ⊢
 split
 ·split
  ·refine (ap_perm o k n fs).mem_iff.2 (List.mem_append.2 (.inl (List.mem_filter.2 ⟨hf, ?_⟩)))
   simp [isKind, hk]
  ·rename_i h1 h2
   rw [if_pos h1, if_neg h2] at h0
   exact absurd h0 (by decide)
 ·rename_i h1
  rw [if_neg h1] at h0
  exact absurd h0 (by decide)
end Go.Proofs.YtfeccolljfkejaaGreatDoor
