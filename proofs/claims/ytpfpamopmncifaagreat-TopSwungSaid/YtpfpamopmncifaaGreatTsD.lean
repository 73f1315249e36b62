/- Package feature at buoys alone: List, Shown; package mooring: Radius, Holds, Feature. -/
import Derived.Test.YtpfpamopmncifaaGreatTsC
import Derived.Test.YtpfpamopmncifaaGreatTsB
set_option linter.unusedSimpArgs false
set_option linter.unusedVariables false
set_option maxHeartbeats 4000000
set_option maxRecDepth 100000
namespace Go.Proofs.YtpfpamopmncifaaGreat
open Go.RowKit Go.Sort
attribute [local go_sem] Steady steadyUpon
attribute [local go_sem ↓] hs_dr lt_add_r lt_add_r2 lt_add_r3 lt_add_r4 lt_add_r5 lt_add_r6
attribute [local go_sem] cell?_gd frozen?_gd setCell_gd size_grow tape_grow cell?_grow' frozen?_grow' setCell_grow' grow_grow grow_dr grow_drew dr_dr dr_drew drew_dr dr_alloc dr_setCell dr_cell dr_frozen dr_tape dr_drawn
attribute [local irreducible] wpSteady
attribute [local go_sem] mc_disc nc_disc
theorem calls_nt {P : Program} {f : FuncId} {args : Array Value} {w : World} {post : Ending → World → Prop} (h : ∀ X, w = X → Calls P f args X post) : Calls P f args w post := h _ rfl
def shL (o : Bool) (k : Nat) : Int := if k = 0 then 100000 else if o = true then 0 else 100000
def liL (id : Int) (k : Nat) : Int := if k = 0 then 0 else id
theorem One.up {W W' : World} {A : Option Addr} {id x y rad sym : Int} (h : One W A id x y rad sym) (g : Grew W W') : One W' A id x y rad sym := Rd.up h g
theorem dList_v (id x y rad sym : Int) (A : Option Addr) (c : Nat) (r : Bool) (w : World) (hr : One w A id x y rad sym) (h : dvOk id x y rad sym = r) :
  Calls Tryz.prog 33 #[.slice A 1 c] w (Ret w (.bool r)) := by
 have hm := hmix
 have k1 := hide (fun W => dValid_v id x y rad sym r W h)
 have HR := hide hr
 have hid : r = true → 1 ≤ id := fun e => by
  rw [e] at h
  unfold dvOk at h
  rw [Bool.and_eq_true, decide_eq_true_eq] at h
  omega
 clear hr h
 go_enter Tryz.func33, Tryz.ntmps33
 go_wp2_with fail
 go_loopw [3, 8] (fun l i wr => ∃ k : Nat, k ≤ 1 ∧ i = .int .i64 k ∧ l = .int .i64 (liL id k) ∧ Grew w wr ∧ AppG (k = 1 → r = true)) (fun _ i _ => 1 - (intOf i).toNat)
 case atStart => exact ⟨0, by omega, rfl, rfl, gw, fun e => by cases e⟩
 case round =>
  obtain ⟨k, hk, rfl, rfl, hg, hall⟩ := hrel
  have HG := hide hg
  have HA := hide hall.stop
  clear hg hall
  match k, hk with
  | 0, _ =>
   rw [show liL id 0 = 0 from rfl]
   obtain ⟨b, off, hA, hb, c0, c1, c2, c3, c4, c5, c6, c7, c8⟩ := (HR.out.up HG.out).at
   have hix := idx_run0 (cap := c) (len := 1) Tryz.underlying54 Tryz.sizeOf46 hA.out (by omega)
   clear hA HA
   cases r
   ·go_wp2_with (go_at_call 25; with_reducible refine crv (k1.out _) fun _ _ => ?_; dsimp only)
    go_ret
    exact Ret.mk' rfl (HG.out.trans gw)
   ·have h1 := hid rfl
    have h2 : ¬ id ≤ 0 := by omega
    go_wp2_with (go_at_call 25; with_reducible refine crv (k1.out _) fun _ _ => ?_; dsimp only)
    go_roundw
    case rel => exact ⟨1, by omega, by first | rfl | go_num, by first | rfl | simp [liL] | simp [shL], HG.out.trans gw, by first | exact True.intro | exact fun _ => trivial | exact fun _ => rfl⟩
    case measure => simp [intOf] <;> omega
  | 1, _ =>
   obtain rfl := HA.out rfl
   go_wp2_with fail
   go_ret
   exact Ret.mk' rfl (HG.out.trans gw)
theorem dShown_n (id x y rad sym : Int) (A : Option Addr) (n c : Nat) (hn : Hid (n = 1)) (p : Pt) (r : Int × Int) (w : World) (hr : One w A id x y rad sym) (h : (if (dvOk id x y rad sym && p.ok) = true then ((if coverD x y rad p = true then 0 else 100000 : Int), (0 : Int)) else (0, 1)) = r) :
  Calls Tryz.prog 12 #[.slice A n c, pt p.1 p.2] w (Ret w (.tuple #[.int .i64 r.1, .int .i64 r.2])) := by
 have hm := hmix
 obtain ⟨u, hu⟩ : ∃ u, dvOk id x y rad sym = u := ⟨_, rfl⟩
 obtain ⟨v, hv⟩ : ∃ u, p.ok = u := ⟨_, rfl⟩
 obtain ⟨o, ho⟩ : ∃ u, coverD x y rad p = u := ⟨_, rfl⟩
 have k1 := hide (fun W (hg : Grew w W) => (by have k := dList_v id x y rad sym A c u W (hr.up hg) hu; rwa [← hn.out] at k : Calls Tryz.prog 33 #[.slice A n c] W (Ret W (.bool u))))
 have k2 := hide (fun W => planeValid_v p.1 p.2 v W hv)
 have k3 := hide (fun W => dof_v id x y rad sym W)
 have k4 := hide (fun W => discCovers_v x y rad p o W ho)
 have hz : (if coverD x y rad p = true then 0 else 100000 : Int) = shL o 1 := by rw [ho]; rfl
 rw [hu, hv, hz] at h
 have HR := hide hr
 clear hu hv ho hr hz
 obtain ⟨p1, p2⟩ := p
 dsimp only at k2 k4
 have hcase : u = false ∨ (u = true ∧ v = false) ∨ (u = true ∧ v = true) := by cases u <;> cases v <;> simp
 rcases hcase with rfl | ⟨rfl, rfl⟩ | ⟨rfl, rfl⟩
 ·rw [if_neg (by simp)] at h
  subst h
  go_enter Tryz.func12, Tryz.ntmps12
  go_wp2_with (first | (go_at_call 33; with_reducible refine crv (k1.out _ gw) fun _ _ => ?_; dsimp only) | (go_at_call 21; with_reducible refine crv (k2.out _) fun _ _ => ?_; dsimp only))
  go_ret2
  exact Ret.mk' rfl gw
 ·rw [if_neg (by simp)] at h
  subst h
  go_enter Tryz.func12, Tryz.ntmps12
  go_wp2_with (first | (go_at_call 33; with_reducible refine crv (k1.out _ gw) fun _ _ => ?_; dsimp only) | (go_at_call 21; with_reducible refine crv (k2.out _) fun _ _ => ?_; dsimp only))
  go_ret2
  exact Ret.mk' rfl gw
 ·rw [if_pos (by rfl)] at h
  subst h
  go_enter Tryz.func12, Tryz.ntmps12
  go_wp2_with (first | (go_at_call 33; with_reducible refine crv (k1.out _ gw) fun _ _ => ?_; dsimp only) | (go_at_call 21; with_reducible refine crv (k2.out _) fun _ _ => ?_; dsimp only))
  refine wp_name ?_
  intro W0 hW
  have HG0 : Hid (Grew w W0) := hide (by rw [← hW]; exact gw)
  have hbp : W0.heap[w.heap.size]? = some (.cells #[.int .i64 p1, .int .i64 p2] 23 (0, 0)) := by
   rw [← hW]
   exact (Grew.heap (w := w.alloc (.cells #[.int .i64 p1, .int .i64 p2] 23)) gw (by simp)).trans (heap_alloc_new _ _)
  have HBP := hide hbp
  clear hW hbp k1 k2
  go_loopw [6, 19] (fun l i wr => ∃ k : Nat, k ≤ n ∧ i = .int .i64 k ∧ l = .int .i64 (shL o k) ∧ Grew W0 wr ∧ AppG (k ≤ 1)) (fun _ i _ => n - (intOf i).toNat)
  case atStart => exact ⟨0, by omega, rfl, rfl, gw, show (0 : Nat) ≤ 1 by omega⟩
  case round =>
   obtain ⟨k, hk, rfl, rfl, hg, _⟩ := hrel
   have HG := hide hg
   have bp := (hg.heap (blk_lt HBP.out)).trans HBP.out
   have d0 := blk_cell bp 0
   have d1 := blk_cell bp 1
   have lp := blk_lt bp
   clear hg bp
   by_cases hlt : k < n
   ·have hk0 : k = 0 := by have := hn.out; omega
    obtain ⟨b, off, hA, hb, c0, c1, c2, c3, c4, c5, c6, c7, c8⟩ := (HR.out.up (HG0.out.trans HG.out)).at
    have hix := idx_run0 (cap := c) (len := n) Tryz.underlying54 Tryz.sizeOf46 hA.out (by omega)
    subst hk0
    rw [show shL o 0 = 100000 from rfl]
    clear hA
    have hlt2 : (0 : Int) < (n : Int) := by omega
    cases o
    all_goals
     go_wp2_with fail
     refine wp_region_qas 10 [] [] hm (h := ?_)
     repeat (refine wpSteady_step (fun K hK => ?_); go_simp; first | (refine hK _ ?_; clear hK K) | (apply Exists.intro; refine ⟨fun _ => ?_, hK _ ?_⟩; (first | (go_at_call 26; with_reducible exact k3.out _) | (go_at_call 124; with_reducible exact k4.out _)); clear hK K))
     refine rq0 fun nq osq => ?_
     try simp only [Act.put, setA]
     try dsimp only
     go_wp2_with fail
     go_roundw
     case rel => exact ⟨1, by omega, by first | rfl | go_num, by first | rfl | simp [shL], HG.out.trans gw, by first | exact True.intro | exact Nat.le_refl 1⟩
     case measure => simp [intOf] <;> omega
   ·have hk1 : k = 1 := by have := hn.out; omega
    have hlt2 : ¬ (k : Int) < (n : Int) := by omega
    go_wp2_with fail
    go_ret2
    exact Ret.mk' (by first | rfl | (rw [hk1]; rfl)) (HG0.out.trans (HG.out.trans gw))
theorem dShown_v (id x y rad sym : Int) (A : Option Addr) (c : Nat) (p : Pt) (r : Int × Int) (w : World) (hr : One w A id x y rad sym) (h : (if (dvOk id x y rad sym && p.ok) = true then ((if coverD x y rad p = true then 0 else 100000 : Int), (0 : Int)) else (0, 1)) = r) :
  Calls Tryz.prog 12 #[.slice A 1 c, pt p.1 p.2] w (Ret w (.tuple #[.int .i64 r.1, .int .i64 r.2])) := dShown_n id x y rad sym A 1 c (hide rfl) p r w hr h
theorem radius_v (x y lo hi ch a b : Int) (w : World) (ha : 0 ≤ a ∧ a ≤ 1000000) (hc : 0 ≤ ch ∧ ch ≤ 1000000) :
  Calls Tryz.prog 42 #[afv x y lo hi ch a b] w fun e w' => ∃ r : Int, e = .returned (.int .i64 r) ∧ 0 ≤ r ∧ r ≤ 100000 ∧ ch * ch - a * a ≤ 100 * (r * r) ∧ (r = 0 ∨ 100 * ((r - 1) * (r - 1)) < ch * ch - a * a) ∧ Grew w w' := by
 have hm := hmix
 have e3 : -1000000000000 ≤ a * a ∧ a * a ≤ 1000000000000 := mul_bd 1000000 1000000 (by omega) (by omega)
 have e4 : -1000000000000 ≤ ch * ch ∧ ch * ch ≤ 1000000000000 := mul_bd 1000000 1000000 (by omega) (by omega)
 have e5 := sq_nn a
 go_enter Tryz.func42, Tryz.ntmps42
 go_wp2_with fail
 refine calls_nt ?_
 intro X hX
 have hg : Grew w X := by rw [← hX]; exact gw
 have hB : Boxed X (w.heap.size + 1) 3 (.int .i64 (ch * ch - a * a)) := by rw [← hX]; first | exact heap_alloc_at _ _ _ (by simp) | exact heap_alloc_at _ _ _ (by simp [hs_dr])
 have HG := hide hg
 clear hX hg
 refine (search1_v 100000 (ch * ch - a * a) _ X hB (by omega)).mono ?_
 rintro e W1 ⟨r, rfl, h0, h1, h2, h3, hg1⟩
 have HG1 := hide (HG.out.trans hg1)
 clear hg1 hB
 dsimp only
 go_wp2_with fail
 go_ret
 refine ⟨r, rfl, h0, h1, ?_, h3, HG1.out.trans gw⟩
 rcases h2 with rfl | h2
 ·omega
 ·exact h2
end Go.Proofs.YtpfpamopmncifaaGreat
