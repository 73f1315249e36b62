/- The reference implementation: At. -/
import Derived.Test.YtgcgaplhaglejaaRefB
namespace Go.Proofs.Ytgcgaplhaglejaa
set_option linter.unusedVariables false
set_option linter.unusedSimpArgs false
open Go.RowKit Go.Sort
attribute [local go_sem] Steady steadyUpon
attribute [local go_sem ↓] hs_dr lt_add_r lt_add_r2 lt_add_r3 lt_add_r4 lt_add_r5 lt_add_r6
attribute [local go_sem] cell?_gd frozen?_gd setCell_gd size_grow tape_grow cell?_grow' frozen?_grow' setCell_grow' grow_grow grow_dr grow_drew dr_dr dr_drew drew_dr dr_alloc dr_setCell dr_cell dr_frozen dr_tape dr_drawn

def hasS (x y : Int) (s : Sec) : Bool := hasR s.fx s.fy s.tx s.ty x y
def atR (ss : List Sec) (x y : Int) : Int × Int := match ss.find? (hasS x y) with | some s => (s.col, s.rng) | none => (0, 0)
theorem find_none_to {ss : List Sec} {p : Sec → Bool} (h : ∀ (j : Nat) (s : Sec), ss[j]? = some s → p s = false) : ss.find? p = none := by
  rw [List.find?_eq_none]
  intro s hs
  obtain ⟨j, hj⟩ := List.getElem?_of_mem hs
  simp [h j s hj]
theorem find_at {p : Sec → Bool} : ∀ {ss : List Sec} {k : Nat} {s : Sec}, ss[k]? = some s → p s = true → (∀ (j : Nat) (t : Sec), j < k → ss[j]? = some t → p t = false) → ss.find? p = some s
  | [], _, _, h, _, _ => by simp at h
  | t :: ss, 0, s, h, hp, _ => by simp at h; subst h; simp [hp]
  | t :: ss, k + 1, s, h, hp, hn => by
    have h0 := hn 0 t (by omega) rfl
    rw [List.find?_cons_of_neg (by simp [h0])]
    exact find_at (k := k) (by simpa using h) hp fun j u hj hu => hn (j + 1) u (by omega) (by simpa using hu)

set_option maxHeartbeats 1600000 in
theorem rAt_any (ss : List Sec) (A : Option Addr) (c : Nat) (x y : Int) (w : World) (hr : Rd w w.heap.size 6 A (ss.map Sec.cells)) (hl : ss.length ≤ c) (hc : ss.length ≤ 100000000000000) (hok : ∀ s ∈ ss, s.ok = true)
    (hx : -4000000 ≤ x ∧ x ≤ 4000000) (hy : -4000000 ≤ y ∧ y ≤ 4000000) :
    Calls Try.prog 39 #[.slice A ss.length c, pt x y] w (Ret w (pt (atR ss x y).1 (atR ss x y).2)) := by
  have hm := hmix
  have HO := hide hok
  clear hok
  obtain ⟨q, hq⟩ : ∃ q, atR ss x y = q := ⟨_, rfl⟩
  rw [hq]
  have HQ := hide hq
  clear hq
  go_enter Try.func39, Try.ntmps39
  go_wp2_with fail
  go_loopw [5] (fun i wr => ∃ k : Nat, k ≤ ss.length ∧ i = .int .i64 k ∧ Grew ((w.alloc (.cells #[.int .i64 x, .int .i64 y] 24)).alloc (.cells #[.int .i64 0, .int .i64 0] 61)) wr ∧ ∀ (j : Nat) (t : Sec), j < k → ss[j]? = some t → hasS x y t = false) (fun i _ => ss.length - (intOf i).toNat)
  case atStart => exact ⟨0, by omega, rfl, (by repeat (with_reducible first | exact Grew.refl _ | assumption | refine Grew.alloc ?_ _ | refine Grew.grow ?_ _ | refine Grew.dr ?_ _ | refine Grew.drewN ?_ _ | refine Grew.drew ?_ | refine Grew.trans ?_ (Hid.out (by assumption)))), fun j t hj => by omega⟩
  case round =>
    obtain ⟨k, hk, rfl, ⟨⟨n, os⟩, rfl⟩, hgood⟩ := hrel
    have HG := hide hgood
    clear hgood
    by_cases hlt : k < ss.length
    · obtain ⟨s, hs⟩ : ∃ s, ss[k]? = some s := ⟨_, List.getElem?_eq_getElem hlt⟩
      obtain ⟨b, off, hA, hb, h0, h1, h2, h3, h4, h5⟩ := secAt hr hs
      have hbd := ok_bd (HO.out s (List.mem_of_getElem? hs))
      have HS := hide hs
      clear hs
      have hix := idx_run (cap := c) Try.underlying22 Try.sizeOf26 hA.out hlt
      cases h6 : hasS x y s
      · have hcon : ∀ W, Calls Try.prog 35 #[pt s.fx s.fy, pt s.tx s.ty, pt x y] W (Ret W (.bool false)) := fun W => by
          have h := rhas_any s.fx s.fy s.tx s.ty x y W hbd.1 hbd.2.1 hbd.2.2.1 hbd.2.2.2 hx hy
          rwa [show hasR s.fx s.fy s.tx s.ty x y = false from h6] at h
        go_wp2_with fail
        refine wp_region_qas 12 [] [] hm (by kernel_rfl) (by simp only [List.take, List.filter, isQ]; rfl) (by simp only [List.drop]; rfl) ZOk.nil (by simp) ?_
        repeat (refine wpSteady_step (fun K hK => ?_); go_simp; first | (refine hK _ ?_; clear hK K) | (apply Exists.intro; refine ⟨fun _ => ?_, hK _ ?_⟩; (go_at_call 35; exact hcon _); clear hK K))
        refine wpSteady_nil ?_
        refine ⟨StOk.nil, LyOk.nil, ?_⟩
        rintro psq qsq Wq HWq HFq HBq
        obtain rfl : qsq = [] := HBq
        obtain rfl : psq = [] := HFq
        obtain ⟨⟨nq, osq⟩, rfl⟩ := HWq
        simp only [putAll, putB, Act.put, List.setIfInBounds_toArray, List.set_cons_succ, List.set_cons_zero]
        try dsimp only
        go_wp2_with fail
        go_roundw
        case rel =>
          refine ⟨k + 1, by omega, by go_num, (by repeat (with_reducible first | exact Grew.refl _ | assumption | refine Grew.alloc ?_ _ | refine Grew.grow ?_ _ | refine Grew.dr ?_ _ | refine Grew.drewN ?_ _ | refine Grew.drew ?_ | refine Grew.trans ?_ (Hid.out (by assumption)))), fun j t hj ht => ?_⟩
          by_cases hjk : j = k
          · subst hjk
            rw [HS.out] at ht
            injection ht with ht
            rw [← ht]
            exact h6
          · exact HG.out j t (by omega) ht
        case measure => simp [intOf]; omega
      · have hcon : ∀ W, Calls Try.prog 35 #[pt s.fx s.fy, pt s.tx s.ty, pt x y] W (Ret W (.bool true)) := fun W => by
          have h := rhas_any s.fx s.fy s.tx s.ty x y W hbd.1 hbd.2.1 hbd.2.2.1 hbd.2.2.2 hx hy
          rwa [show hasR s.fx s.fy s.tx s.ty x y = true from h6] at h
        have hf := find_at HS.out h6 HG.out
        have hqv : q = (s.col, s.rng) := by rw [← HQ.out]; unfold atR; rw [hf]
        subst hqv
        clear hf
        go_wp2_with fail
        refine wp_region_qas 12 [] [] hm (by kernel_rfl) (by simp only [List.take, List.filter, isQ]; rfl) (by simp only [List.drop]; rfl) ZOk.nil (by simp) ?_
        repeat (refine wpSteady_step (fun K hK => ?_); go_simp; first | (refine hK _ ?_; clear hK K) | (apply Exists.intro; refine ⟨fun _ => ?_, hK _ ?_⟩; (go_at_call 35; exact hcon _); clear hK K))
        refine wpSteady_nil ?_
        refine ⟨StOk.nil, LyOk.nil, ?_⟩
        rintro psq qsq Wq HWq HFq HBq
        obtain rfl : qsq = [] := HBq
        obtain rfl : psq = [] := HFq
        obtain ⟨⟨nq, osq⟩, rfl⟩ := HWq
        simp only [putAll, putB, Act.put, List.setIfInBounds_toArray, List.set_cons_succ, List.set_cons_zero]
        try dsimp only
        go_wp2_with fail
        refine wp_region_qas 11 [] [] hm (by kernel_rfl) (by simp only [List.take, List.filter, isQ]; rfl) (by simp only [List.drop]; rfl) ZOk.nil (by simp) ?_
        repeat (refine wpSteady_step (fun K hK => ?_); go_simp; first | (refine hK _ ?_; clear hK K) | (apply Exists.intro; refine ⟨fun _ => ?_, hK _ ?_⟩; (fail); clear hK K))
        refine wpSteady_nil ?_
        refine ⟨StOk.nil, LyOk.nil, ?_⟩
        rintro psq qsq Wqz HWqz HFq HBq
        obtain rfl : qsq = [] := HBq
        obtain rfl : psq = [] := HFq
        obtain ⟨⟨nqz, osqz⟩, rfl⟩ := HWqz
        simp only [putAll, putB, Act.put, List.setIfInBounds_toArray, List.set_cons_succ, List.set_cons_zero]
        try dsimp only
        go_wp2
        refine bodyPost_ret (v := pt s.col s.rng) (by simp [results, Try.results39, go_sem]) rfl ?_
        exact Ret.mk' rfl (by repeat (with_reducible first | exact Grew.refl _ | assumption | refine Grew.alloc ?_ _ | refine Grew.grow ?_ _ | refine Grew.dr ?_ _ | refine Grew.drewN ?_ _ | refine Grew.drew ?_ | refine Grew.trans ?_ (Hid.out (by assumption))))
    · obtain rfl : k = ss.length := by omega
      have hf := find_none_to (p := hasS x y) fun j t ht => HG.out j t (List.getElem?_eq_some_iff.1 ht).1 ht
      have hqv : q = (0, 0) := by rw [← HQ.out]; unfold atR; rw [hf]
      subst hqv
      clear hf
      go_wp2
      refine bodyPost_ret (v := pt 0 0) (by simp [results, Try.results39, go_sem]) rfl ?_
      exact Ret.mk' rfl (by repeat (with_reducible first | exact Grew.refl _ | assumption | refine Grew.alloc ?_ _ | refine Grew.grow ?_ _ | refine Grew.dr ?_ _ | refine Grew.drewN ?_ _ | refine Grew.drew ?_ | refine Grew.trans ?_ (Hid.out (by assumption))))
end Go.Proofs.Ytgcgaplhaglejaa
