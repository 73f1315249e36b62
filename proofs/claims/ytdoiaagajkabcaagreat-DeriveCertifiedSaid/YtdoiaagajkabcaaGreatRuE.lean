/- Package rule: what a thinning does, in plain words; the function that looks for a near disc. -/
import Derived.Test.YtdoiaagajkabcaaGreatRuD
import Derived.Test.YtdoiaagajkabcaaGreatFeS
import Derived.Test.YtdoiaagajkabcaaGreatPle
namespace Go.Proofs.YtdoiaagajkabcaaGreat
set_option linter.unusedVariables false
set_option linter.unusedSimpArgs false
open Go.RowKit Go.Sort Go.Lib
attribute [local go_sem] Steady steadyUpon
attribute [local go_sem ↓] hs_dr lt_add_r lt_add_r2 lt_add_r3 lt_add_r4 lt_add_r5 lt_add_r6
attribute [local go_sem] cell?_gd frozen?_gd setCell_gd size_grow tape_grow cell?_grow' frozen?_grow' setCell_grow' grow_grow grow_dr grow_drew dr_dr dr_drew drew_dr dr_alloc dr_setCell dr_cell dr_frozen dr_tape dr_drawn
attribute [local irreducible] wpSteady

def nearF (n : Int) (f g : FV) : Bool := (nearOf (f.x, f.y) (g.x, g.y) (g.x, g.y) n).1
def liesF (f g : FV) : Bool := (liesOf (f.x, f.y) f.rad (g.x, g.y) g.rad).1
def hiF (f g : FV) : Int := (distOf (f.x, f.y) (g.x, g.y)).1.2
def growF (f g : FV) : FV := { g with rad := hiF f g + f.rad }
def joinF (f g : FV) : FV := if 100000 < g.rad then g else if liesF f g = true then g else growF f g
def thinStep (n : Int) (kept : List FV) (f : FV) : List FV := match kept.findIdx? (nearF n f) with | none => kept ++ [f] | some k => kept.set k (joinF f (fAt kept k))
def keptTo (n : Int) (ds : List FV) (m : Nat) : List FV := (ds.take m).foldl (thinStep n) []
def othersOf (k : Int) (fs : List FV) : List FV := fs.filter fun f => !isKind k f
def discsOf (k : Int) (fs : List FV) : List FV := (fs.filter (isKind k)).mergeSort leD
def thinOf (k n : Int) (fs : List FV) : List FV := (othersOf k fs ++ keptTo n (discsOf k fs) (discsOf k fs).length).mergeSort leI
theorem keptTo_succ {n : Int} {ds : List FV} {m : Nat} (h : m < ds.length) : keptTo n ds (m + 1) = thinStep n (keptTo n ds m) (fAt ds m) := by
  unfold keptTo
  rw [List.take_add_one, fAt_get h, List.foldl_append]
  rfl
theorem step_none {n : Int} {kept : List FV} {f : FV} (h : ∀ m, m < kept.length → nearF n f (fAt kept m) = false) : thinStep n kept f = kept ++ [f] := by
  unfold thinStep
  rw [List.findIdx?_eq_none_iff.2 (fun x hx => ?_)]
  obtain ⟨m, hm, e⟩ := List.getElem_of_mem hx
  have := h m hm
  have a := fAt_get hm
  rw [List.getElem?_eq_getElem hm, e] at a
  injection a with a
  rw [a]
  exact this
theorem step_some {n : Int} {kept : List FV} {f : FV} {k : Nat} (hk : k < kept.length) (h1 : nearF n f (fAt kept k) = true) (h2 : ∀ m, m < k → nearF n f (fAt kept m) = false) : thinStep n kept f = kept.set k (joinF f (fAt kept k)) := by
  unfold thinStep
  have e : ∀ m, (h : m < kept.length) → kept[m] = fAt kept m := fun m h => by
    have a := fAt_get h
    rw [List.getElem?_eq_getElem h] at a
    injection a
  rw [List.findIdx?_eq_some_iff_getElem.2 ⟨hk, by rw [e]; exact h1, fun j hj => by rw [e, h2 j hj]; simp⟩]
/-- g is one of fs, with a radius of its own. -/
def Src (fs : List FV) (g : FV) : Prop := ∃ f, f ∈ fs ∧ g = { f with rad := g.rad }
theorem Src.of {fs : List FV} {f : FV} (h : f ∈ fs) : Src fs f := ⟨f, h, rfl⟩
theorem Src.mono {fs gs : List FV} {g : FV} (h : Src fs g) (hs : ∀ f, f ∈ fs → f ∈ gs) : Src gs g := h.imp fun _ h => ⟨hs _ h.1, h.2⟩
theorem Src.grow {fs : List FV} {g : FV} (h : Src fs g) (r : Int) : Src fs { g with rad := r } := by
  obtain ⟨f, hf, e⟩ := h
  exact ⟨f, hf, by rw [e]⟩
theorem Src.rd {fs : List FV} {g : FV} {w : World} {B : Nat} (h : Src fs g) (hr : ∀ f, f ∈ fs → f.rd w B) : g.rd w B := by
  obtain ⟨f, hf, e⟩ := h
  have := hr f hf
  rw [e]
  exact ⟨this.area, this.secs, this.la, this.ls, this.lc⟩
theorem hi_bd (f g : FV) : 0 ≤ hiF f g ∧ hiF f g ≤ 8388608 := by
  unfold hiF distOf
  split
  · rename_i h
    split
    · simp
    · have h2 : plOk f.x f.y = true ∧ plOk g.x g.y = true := by simpa [Pt.ok] using h
      have hd := dt_bd (a := (f.x, f.y)) (b := (g.x, g.y)) (c := (g.x, g.y)) h2.1 h2.2 h2.2
      have hd0 := dt_nn (f.x, f.y) (g.x, g.y)
      obtain ⟨h3, h4, _⟩ := root_spec _ hd0 (by omega)
      split
      · exact ⟨h3, by dsimp only; omega⟩
      · dsimp only
        omega
  · simp
/-- What is known of what is kept. -/
structure Kept (ds : List FV) (g : FV) : Prop where
  src : Src ds g
  rad : 0 ≤ g.rad ∧ g.rad ≤ 9000000
theorem kept_join {ds : List FV} {f g : FV} (hf : 0 ≤ f.rad ∧ f.rad ≤ 100000) (hg : Kept ds g) : Kept ds (joinF f g) := by
  unfold joinF
  split
  · exact hg
  · split
    · exact hg
    · have := hi_bd f g
      exact ⟨hg.src.grow _, by show 0 ≤ hiF f g + f.rad ∧ hiF f g + f.rad ≤ 9000000; omega⟩
theorem kept_step {ds kept : List FV} {n : Int} {f : FV} (hf : 0 ≤ f.rad ∧ f.rad ≤ 100000) (hm : f ∈ ds) (h : ∀ g, g ∈ kept → Kept ds g) : ∀ g, g ∈ thinStep n kept f → Kept ds g := by
  intro g hg
  unfold thinStep at hg
  split at hg
  · rcases List.mem_append.1 hg with hg | hg
    · exact h g hg
    · rw [List.mem_singleton.1 hg]
      exact ⟨Src.of hm, by omega⟩
  · rename_i k hk
    rcases List.mem_or_eq_of_mem_set hg with hg | hg
    · exact h g hg
    · rw [hg]
      have hk2 : k < kept.length := (List.findIdx?_eq_some_iff_getElem.1 hk).1
      exact kept_join hf (h _ (fAt_mem hk2))
theorem kept_all {ds : List FV} {n : Int} (hd : ∀ f, f ∈ ds → 0 ≤ f.rad ∧ f.rad ≤ 100000) : ∀ m, m ≤ ds.length → ∀ g, g ∈ keptTo n ds m → Kept ds g
  | 0, _ => fun g hg => by simp [keptTo] at hg
  | m + 1, h => by
    rw [keptTo_succ (by omega)]
    exact kept_step (hd _ (fAt_mem (by omega))) (fAt_mem (by omega)) (kept_all hd m (by omega))
theorem join_id (f g : FV) : (joinF f g).id = g.id := by
  unfold joinF
  split
  · rfl
  · split <;> rfl
theorem step_ids {n : Int} {kept : List FV} {f : FV} : (thinStep n kept f).map FV.id = kept.map FV.id ∨ (thinStep n kept f).map FV.id = kept.map FV.id ++ [f.id] := by
  unfold thinStep
  split
  · right
    simp
  · left
    rename_i k hk
    have hk2 : k < kept.length := (List.findIdx?_eq_some_iff_getElem.1 hk).1
    rw [List.map_set, join_id]
    apply List.ext_getElem?
    intro i
    by_cases hi : i = k
    · subst hi
      rw [List.getElem?_set_self (by simpa using hk2), List.getElem?_map, fAt_get hk2]
      rfl
    · rw [List.getElem?_set_ne (fun e => hi e.symm)]
theorem kept_ids {n : Int} {ds : List FV} : ∀ m, m ≤ ds.length → ((keptTo n ds m).map FV.id).Sublist ((ds.take m).map FV.id)
  | 0, _ => by simp [keptTo]
  | m + 1, h => by
    have ih := kept_ids (n := n) (ds := ds) m (by omega)
    rw [keptTo_succ (by omega), List.take_add_one, fAt_get (by omega), List.map_append]
    rcases step_ids (n := n) (kept := keptTo n ds m) (f := fAt ds m) with e | e
    · rw [e]
      exact ih.trans (List.sublist_append_left _ _)
    · rw [e]
      exact ih.append (List.Sublist.refl _)
theorem kept_len {n : Int} {ds : List FV} {m : Nat} (h : m ≤ ds.length) : (keptTo n ds m).length ≤ m := by
  have := (kept_ids (n := n) m h).length_le
  simp only [List.length_map, List.length_take] at this
  omega
theorem discs_perm (k : Int) (fs : List FV) : (discsOf k fs).Perm (fs.filter (isKind k)) := List.mergeSort_perm _ _
theorem thin_ids {k n : Int} {fs : List FV} (h : (fs.map FV.id).Nodup) : ((othersOf k fs ++ keptTo n (discsOf k fs) (discsOf k fs).length).map FV.id).Nodup := by
  have h1 : ((fs.filter (isKind k) ++ othersOf k fs).map FV.id).Nodup := (((List.filter_append_perm (isKind k) fs).map FV.id).nodup_iff).2 h
  have h2 : ((othersOf k fs ++ discsOf k fs).map FV.id).Nodup := by
    refine ((List.Perm.map FV.id ?_).nodup_iff).2 h1
    exact List.perm_append_comm.trans ((discs_perm k fs).append_right _)
  refine List.Nodup.sublist ?_ h2
  rw [List.map_append, List.map_append]
  have := kept_ids (n := n) (ds := discsOf k fs) _ (Nat.le_refl _)
  rw [List.take_length] at this
  exact (List.Sublist.refl _).append this
/-- IDs of a valid list. -/
theorem list_asc {fs : List FV} (h : FList fs = true) : ∀ i j, i < j → j < fs.length → (fAt fs i).id < (fAt fs j).id := by
  have hu : ∀ k, k < fs.length → upOk fs k = true := fun k hk => by
    unfold FList upTo at h
    rw [Bool.and_eq_true, List.all_eq_true] at h
    exact h.1 k (List.mem_range.2 hk)
  have hs : ∀ k, k + 1 < fs.length → (fAt fs k).id < (fAt fs (k + 1)).id := fun k hk => by
    have := hu (k + 1) hk
    unfold upOk lastId at this
    rw [Bool.and_eq_true, decide_eq_true_eq, if_neg (by omega), Nat.add_sub_cancel] at this
    exact this.2
  intro i j hij
  induction j with
  | zero => omega
  | succ j ih =>
    intro hj
    by_cases e : i = j
    · subst e; exact hs i hj
    · exact Int.lt_trans (ih (by omega) (by omega)) (hs j hj)
theorem list_valid {fs : List FV} (h : FList fs = true) : ∀ f, f ∈ fs → FValid f = true := by
  intro f hf
  obtain ⟨k, hk, e⟩ := List.getElem_of_mem hf
  unfold FList upTo at h
  rw [Bool.and_eq_true, List.all_eq_true] at h
  have := h.1 k (List.mem_range.2 hk)
  unfold upOk at this
  rw [Bool.and_eq_true] at this
  have a := fAt_get hk
  rw [List.getElem?_eq_getElem hk, e] at a
  injection a with a
  rw [a]
  exact this.1
theorem list_len {fs : List FV} (h : FList fs = true) : fs.length ≤ 300 := by
  unfold FList at h
  rw [Bool.and_eq_true, decide_eq_true_eq] at h
  exact h.2
theorem list_nodup {fs : List FV} (h : FList fs = true) : (fs.map FV.id).Nodup := by
  unfold List.Nodup
  rw [List.pairwise_map, List.pairwise_iff_getElem]
  intro i j hi hj hij
  have e : ∀ m, (h : m < fs.length) → fs[m] = fAt fs m := fun m h => by
    have a := fAt_get h
    rw [List.getElem?_eq_getElem h] at a
    injection a
  rw [e, e]
  have := list_asc h i j hij hj
  omega
theorem valid_rad {f : FV} (h : FValid f = true) : 0 ≤ f.rad ∧ f.rad ≤ 100000 := by
  unfold FValid baseOk at h
  rw [Bool.and_eq_true, decide_eq_true_eq] at h
  exact h.1.2.2.2
set_option maxRecDepth 100000 in
set_option maxHeartbeats 1600000 in
theorem tnear_v (f g : FV) (F R : Nat) (o k n : Int) (r : Bool) (w : World) (hF : FAt w F 0 f) (lF : F < w.heap.size) (hR : RuBox w R o k n) (h : nearF n f g = r) :
    Calls Tryz.prog 125 #[g.val, .pointer (some ⟨F, 0, none⟩), .pointer (some ⟨R, 0, none⟩)] w (Ret w (.bool r)) := by
  have hm := hmix
  obtain ⟨⟨u, e⟩, hu⟩ : ∃ u, nearOf (f.x, f.y) (g.x, g.y) (g.x, g.y) n = u := ⟨_, rfl⟩
  have k1 := hide (fun W => Near_v (f.x, f.y) (g.x, g.y) (g.x, g.y) n (u, e) W hu)
  unfold nearF at h
  rw [hu] at h
  dsimp only at h k1
  subst h
  have c2 := hF.c2
  have c3 := hF.c3
  rw [Nat.zero_add] at c2 c3
  obtain ⟨⟨r0, r1, r2⟩, lR⟩ := hR
  clear hF hu
  go_enter Tryz.func125, Tryz.ntmps125
  go_wp2_with (go_at_call 126; (with_reducible refine (k1.out _).mono ?_); rintro e w' ⟨rfl, ⟨_, _⟩, rfl⟩; dsimp only)
  go_ret
  exact Ret.mk' rfl gw
set_option maxRecDepth 100000 in
set_option maxHeartbeats 4000000 in
theorem tidx_v (f : FV) (fs : List FV) (A : Option Addr) (c F R : Nat) (o k n : Int) (w : World) (hF : FAt w F 0 f) (lF : F < w.heap.size) (hR : RuBox w R o k n) (hr : Rd w w.heap.size 9 A (fs.map FV.cells)) (hc : fs.length ≤ 1000) :
    Calls Tryz.prog 73 #[.slice A fs.length c, .func (.func 125) #[] #[.pointer (some ⟨F, 0, none⟩), .pointer (some ⟨R, 0, none⟩)]] w fun e w' => FIdxP (nearF n f) fs e ∧ Grew w w' := by
  have hm := hmix
  have HR := hide hr
  have HF := hide hF
  have HRu := hide hR
  clear hr hF hR
  go_enter Tryz.func73, Tryz.ntmps73
  go_wp2_with fail
  go_loopw [8] (fun i wr => ∃ m : Nat, m ≤ fs.length ∧ i = .int .i64 m ∧ Grew w wr ∧ AppG (∀ j, j < m → nearF n f (fAt fs j) = false)) (fun i _ => fs.length - (intOf i).toNat)
  case atStart => exact ⟨0, by omega, rfl, gw, fun j hj => by omega⟩
  case round =>
    obtain ⟨m, hmm, rfl, hg, hall⟩ := hrel
    have HG := hide hg
    have HA := hide hall.stop
    clear hg hall
    by_cases hlt : m < fs.length
    · obtain ⟨b, off, hA, hb, fc⟩ := rowAt (HR.out.up HG.out) hlt
      have hix := idx_run (cap := c) Tryz.underlying22 Tryz.sizeOf52 hA.out hlt
      obtain ⟨u, hu⟩ : ∃ u, nearF n f (fAt fs m) = u := ⟨_, rfl⟩
      have k1 := hide (fun W (hg : Grew w W) => tnear_v f (fAt fs m) F R o k n u W (HF.out.up hg lF) (Nat.lt_of_lt_of_le lF hg.below.size) (HRu.out.up hg) hu)
      have HU := hide hu
      obtain ⟨c0, c1, c2, c3, c4, c5, c6, c7, c8⟩ := fc
      clear hu hA
      cases u
      · go_wp2_with (go_at_call 125; (with_reducible refine (k1.out _ (HG.out.trans gw)).mono ?_); rintro e w' ⟨rfl, ⟨_, _⟩, rfl⟩; dsimp only)
        go_roundw
        case rel => exact ⟨m + 1, by omega, by go_num, HG.out.trans gw, show ∀ j, j < m + 1 → nearF n f (fAt fs j) = false from (fun j hj => by
          by_cases e : j = m
          · rw [e]; exact HU.out
          · exact HA.out j (by omega))⟩
        case measure => simp [intOf]; omega
      · go_wp2_with (go_at_call 125; (with_reducible refine (k1.out _ (HG.out.trans gw)).mono ?_); rintro e w' ⟨rfl, ⟨_, _⟩, rfl⟩; dsimp only)
        go_ret
        exact ⟨.inr ⟨m, by omega, rfl, HU.out, HA.out⟩, HG.out.trans gw⟩
    · obtain rfl : m = fs.length := by omega
      go_wp2_with fail
      go_ret
      exact ⟨.inl ⟨rfl, HA.out⟩, HG.out⟩
end Go.Proofs.YtdoiaagajkabcaaGreat
