/- Package tide: Height. -/
import Derived.Test.YtpfpamopmncifaaGreatTsG
set_option linter.unusedSimpArgs false
set_option linter.unusedVariables false
set_option maxHeartbeats 8000000
set_option maxRecDepth 100000
namespace Go.Proofs.YtpfpamopmncifaaGreat
open Go.RowKit Go.Sort
attribute [local go_sem] Steady steadyUpon
attribute [local go_sem ↓] hs_dr lt_add_r lt_add_r2 lt_add_r3 lt_add_r4 lt_add_r5 lt_add_r6
attribute [local go_sem] cell?_gd frozen?_gd setCell_gd size_grow tape_grow cell?_grow' frozen?_grow' setCell_grow' grow_grow grow_dr grow_drew dr_dr dr_drew drew_dr dr_alloc dr_setCell dr_cell dr_frozen dr_tape dr_drawn
attribute [local irreducible] wpSteady
def accS (f u : Int) (o : Option Pt) (x : STV) : Option Pt := if x.1.2 < f ∨ u < x.1.1 then o else match o with | none => some x.2 | some p => some (joinP p x.2)
def accL (f u : Int) (l : List STV) : Option Pt := l.foldl (accS f u) none
theorem accL_snoc (f u : Int) (l : List STV) (x : STV) : accL f u (l ++ [x]) = accS f u (accL f u l) x := by unfold accL; rw [List.foldl_append]; rfl
theorem accL_ok (f u : Int) : ∀ (l : List ST) (o : Option Pt), (∀ p, o = some p → hOk p = true) → ∀ p, (l.map Subtype.val).foldl (accS f u) o = some p → hOk p = true
 | [], _, h, p, e => h p e
 | x :: l, o, h, p, e => by
  refine accL_ok f u l (accS f u o x.1) (fun q hq => ?_) p e
  unfold accS at hq
  split at hq
  ·exact h q hq
  ·cases ho : o with
   | none => rw [ho] at hq; injection hq with hq; rw [← hq]; exact x.2
   | some y => rw [ho] at hq; injection hq with hq; rw [← hq]; exact join_ok (h y ho) x.2
def okT (st sp : Int) (hs : List Pt) (f u : Int) : Bool := tdOk st sp hs && (timB f && (timB u && decide (f ≤ u)))
def heightOf (st sp : Int) (hs : List Pt) (f u : Int) : Pt × Int :=
 if okT st sp hs f u = true then (if f < st ∨ lastT st sp hs.length < u then ((0, 0), 4) else ((accL f u (strTo st sp hs hs.length)).getD (0, 0), 0)) else ((0, 0), 1)
theorem wpIn_nw {F : Fence} {n : Nat} {P : Program} {c : Code} {Q : Exit → Act → World → Prop} {a : Act} {w : World} (h : ∀ W0, w = W0 → c.wpIn F n P Q a W0) : c.wpIn F n P Q a w := h _ rfl
theorem KpM.setT {M : Nat → TypeId → Prop} (W : World) (b i : Nat) (v : Value) {cs : Array Value} {T : TypeId} {fr : Nat × Nat} (hb : W.heap[b]? = some (.cells cs T fr)) (h : M b T) : KpM M W (W.setCell ⟨b, i, none⟩ v) := fun k cs' T' fr' hM hk => by
 by_cases e : k = b
 ·subst e
  rw [hb] at hk
  injection hk with hk
  injection hk with _ hk _
  subst hk
  exact absurd h hM
 ·rw [heap_setCell_other W ⟨b, i, none⟩ k v (fun h => e h)]
  exact hk
def outC (o : Option Pt) : Array Value := match o with | none => #[.int .i64 0, .int .i64 0] | some p => #[.int .i64 p.1, .int .i64 p.2]
def someC (o : Option Pt) : Array Value := #[.bool o.isSome]
theorem tHeight_bad (st sp : Int) (hs : List Pt) (A : Option Addr) (c : Nat) (f u : Int) (w : World) (hr : Rd w w.heap.size 2 A (hs.map encD)) (hc : hs.length ≤ 100000000000000) (h : okT st sp hs f u = false ∨ (okT st sp hs f u = true ∧ (f < st ∨ lastT st sp hs.length < u))) :
  Calls Tryz.prog 6 #[tdv st sp A hs.length c, .int .i64 f, .int .i64 u] w (Ret w (.tuple #[spv (heightOf st sp hs f u).1.1 (heightOf st sp hs f u).1.2, .int .i64 (heightOf st sp hs f u).2])) := by
 have hm := hmix
 unfold heightOf
 obtain ⟨a, ha⟩ : ∃ a, tdOk st sp hs = a := ⟨_, rfl⟩
 obtain ⟨b, hb⟩ : ∃ a, timB f = a := ⟨_, rfl⟩
 obtain ⟨d, hd⟩ : ∃ a, timB u = a := ⟨_, rfl⟩
 have k1 := hide (fun W (hg : Grew w W) => tValid_v st sp hs A c a W (hr.up hg) hc ha)
 have k2 := hide (fun W => isTime_v f b W hb)
 have k3 := hide (fun W => isTime_v u d W hd)
 rcases h with h | ⟨h, h2⟩
 ·rw [if_neg (by rw [h]; simp)]
  unfold okT at h
  rw [ha, hb, hd] at h
  have hcase : a = false ∨ (a = true ∧ b = false) ∨ (a = true ∧ b = true ∧ d = false) ∨ (a = true ∧ b = true ∧ d = true ∧ u < f) := by
   cases a
   ·exact .inl rfl
   ·cases b
    ·exact .inr (.inl ⟨rfl, rfl⟩)
    ·cases d
     ·exact .inr (.inr (.inl ⟨rfl, rfl, rfl⟩))
     ·exact .inr (.inr (.inr ⟨rfl, rfl, rfl, by simpa using h⟩))
  clear h ha hb hd hr
  rcases hcase with rfl | ⟨rfl, rfl⟩ | ⟨rfl, rfl, rfl⟩ | ⟨rfl, rfl, rfl, h4⟩
  all_goals
   go_enter Tryz.func6, Tryz.ntmps6
   go_wp2_with (first | (go_at_call 14; with_reducible refine crv (k1.out _ gw) fun _ _ => ?_; dsimp only) | (go_at_call 15; first | (with_reducible refine crv (k2.out _) fun _ _ => ?_) | (with_reducible refine crv (k3.out _) fun _ _ => ?_); dsimp only))
   refine bodyPost_ret (v := .tuple #[spv 0 0, .int .i64 1]) (by simp [results, Tryz.results6, go_sem]) rfl ?_
   exact Ret.mk' rfl gw
 ·rw [if_pos h, if_pos h2]
  unfold okT at h
  rw [ha, hb, hd] at h
  simp only [Bool.and_eq_true, decide_eq_true_eq] at h
  obtain ⟨rfl, rfl, rfl, h4⟩ := h
  have hbase : tdBase st sp hs.length = true := by unfold tdOk at ha; rw [Bool.and_eq_true] at ha; exact ha.1
  obtain ⟨_, _, _, _, _, _, b7, b8, b9⟩ := base_yes _ _ _ hbase
  have k4 := hide (fun W => last_v st sp A hs.length c W b7 b8 b9)
  have n1 : ¬ u < f := by omega
  clear ha hb hd hr hbase
  obtain ⟨L, hL⟩ : ∃ L, lastT st sp hs.length = L := ⟨_, rfl⟩
  rw [hL] at h2 k4
  clear hL
  have hcase : f < st ∨ (¬ f < st ∧ L < u) := by omega
  clear h2
  rcases hcase with h5 | ⟨h5, h6⟩
  all_goals
   go_enter Tryz.func6, Tryz.ntmps6
   go_wp2_with (first | (go_at_call 14; with_reducible refine crv (k1.out _ gw) fun _ _ => ?_; dsimp only) | (go_at_call 15; first | (with_reducible refine crv (k2.out _) fun _ _ => ?_) | (with_reducible refine crv (k3.out _) fun _ _ => ?_); dsimp only))
   refine wp_region_qas 10 [] [] hm (h := ?_)
   repeat (refine wpSteady_step (fun K hK => ?_); go_simp; first | (refine hK _ ?_; clear hK K) | (apply Exists.intro; refine ⟨fun _ => ?_, hK _ ?_⟩; ((go_at_call 16; with_reducible exact k4.out _)); clear hK K))
   refine rq0 fun nq osq => ?_
   try simp only [Act.put, setA]
   try dsimp only
   go_wp2_with fail
   refine bodyPost_ret (v := .tuple #[spv 0 0, .int .i64 4]) (by simp [results, Tryz.results6, go_sem]) rfl ?_
   exact Ret.mk' rfl gw
end Go.Proofs.YtpfpamopmncifaaGreat
