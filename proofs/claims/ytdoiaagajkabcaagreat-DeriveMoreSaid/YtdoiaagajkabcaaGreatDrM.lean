/- The law DeriveMore: plain, and walked. -/
import Derived.Deep.CutRange
import Derived.Deep.DeepCutAuto
import Derived.Test.YtdoiaagajkabcaaGreatRegE
import Derived.Test.YtdoiaagajkabcaaGreatDrB
import Derived.Test.YtdoiaagajkabcaaGreatDrP
set_option linter.unusedSimpArgs false
set_option linter.unusedVariables false
set_option maxHeartbeats 16000000
set_option maxRecDepth 100000
namespace Go.Proofs.YtdoiaagajkabcaaGreat.E
open Go.RowKit Go.Sort
/-- An append as an effect, which also tells what stays as it is. -/
theorem effUpon_append2 {P : Program} {N : Nat} {o : Oper} {a : Act} {w : World} {K : Value → World → Prop} (s x : Operand) (t : TypeId)
  (ho : o.op = .call { callee := .builtin .append, args := #[s, x], argTypes := #[t, t] })
  (base : Nat) (e : TypeId) (i : TypeInfo) (z : Value) (size bytes : Nat) (ht : P.underlying t = some (.slice e)) (hi : P.info? e = some i) (hz : i.zero = some z)
  (hsize : i.size = size) (hby : i.bytes = bytes) (hzs : z.cells.size = size) (hsz : 0 < size)
  (v : Value) (n : Nat) (xs : List Value) (ws : a.eval s = v) (hown : w.ownsRow base e size v n xs)
  (Bd : Nat) (A : Option Addr) (k c : Nat) (news : List Value) (hx : a.eval x = .slice A k c) (hr : Reads w Bd size A k news) (h1 : ∀ u ∈ news, u.oneCell' = true)
  (h63 : n + k ≤ maxLen) (hbytes : (n + k) * bytes ≤ 140737488355328) (hbase : base ≤ w.heap.size) (hN : N ≤ base)
  (h : ∀ v' w', w'.ownsRow base e size v' (n + k) (xs ++ news) → Below N w w' → w.grownBy w' v.ownBlock → K v' w') : effUpon P N w K ((execOp a.eval o).run P w) := by
 obtain ⟨v', w', hrun, h2, h3, _⟩ := run_append_any (P := P) w base t o.type e i z size bytes ht hi hz hsize hby hzs hsz v n xs hown Bd A k c news hr h1 h63 hbytes hbase
 unfold execOp
 simp only [ho, resolve, invoke, builtin, Sem.run_bind, Sem.run_pure, Result.andThen_ok, List.map_toArray, List.map_cons, List.map_nil, ws, hx, hrun]
 have hb : Below N w w' := (Below.refl N w).grown h3 (by omega) fun q hq => by have := (hown.lt q hq).1; omega
 exact ⟨hb, h v' w' h2 hb h3⟩
end Go.Proofs.YtdoiaagajkabcaaGreat.E
namespace Go.Proofs.YtdoiaagajkabcaaGreat
open Go.RowKit Go.Sort
attribute [local go_sem] Steady steadyUpon
attribute [local go_sem ↓] hs_dr lt_add_r lt_add_r2 lt_add_r3 lt_add_r4 lt_add_r5 lt_add_r6
attribute [local go_sem] cell?_gd frozen?_gd setCell_gd size_grow tape_grow cell?_grow' frozen?_grow' setCell_grow' grow_grow grow_dr grow_drew dr_dr dr_drew drew_dr dr_alloc dr_setCell dr_cell dr_frozen dr_tape dr_drawn
attribute [local irreducible] wpSteady
attribute [local go_sem] E.effUpon
/-- The proofs without those of one ID, among the first k. -/
def lessP (ps : List Pt) (x : Int) (k : Nat) : List Pt := (ps.take k).filter fun p => !decide (p.1 = x)
theorem lessP_succ {ps : List Pt} {x : Int} {k : Nat} (h : k < ps.length) : lessP ps x (k + 1) = if (cor ps k).1 = x then lessP ps x k else lessP ps x k ++ [cor ps k] := by
 unfold lessP
 rw [List.take_add_one, cor_get h, List.filter_append]
 by_cases e : (cor ps k).1 = x
 ·rw [if_pos e]
  simp [e]
 ·rw [if_neg e]
  simp [e]
theorem lessP_len (ps : List Pt) (x : Int) (k : Nat) : (lessP ps x k).length ≤ ps.length := by
 unfold lessP
 refine Nat.le_trans (List.length_filter_le _ _) ?_
 rw [List.length_take]
 omega
theorem more_wide {fs gs : List FV} {lim : Int} {ps : List Pt} {f : FV} (h : Proves fs gs lim ps) (hw : FList (gs ++ [f]) = true) : Proves fs (gs ++ [f]) lim ps :=
 ⟨h.lf, hw, h.lm, h.ord, fun p hp => by
  obtain ⟨a, ha, b, hb, h1⟩ := h.good p hp
  exact ⟨a, ha, b, List.mem_append_left _ hb, h1⟩, h.cov⟩
theorem more_in {fs : List FV} (hf : FList fs = true) {q : Nat} (hq : q < fs.length) {f : FV} (h : f ∈ fs) (hne : f.id ≠ (fAt fs q).id) : f ∈ fs.take q ++ fs.drop (q + 1) := by
 obtain ⟨j, hj, rfl⟩ := fAt_of_mem h
 rw [List.mem_append]
 by_cases hjq : j < q
 ·refine .inl (List.mem_of_getElem? (i := j) ?_)
  rw [List.getElem?_take_of_lt hjq, fAt_get hj]
 ·by_cases e : j = q
  ·subst e; exact absurd rfl hne
  ·refine .inr (List.mem_of_getElem? (i := j - (q + 1)) ?_)
   rw [List.getElem?_drop, show q + 1 + (j - (q + 1)) = j by omega, fAt_get hj]
theorem more_out {fs : List FV} (hf : FList fs = true) {q : Nat} (hq : q < fs.length) {f : FV} (h : f ∈ fs.take q ++ fs.drop (q + 1)) : f ∈ fs ∧ f.id ≠ (fAt fs q).id := by
 rcases List.mem_append.1 h with h | h
 ·obtain ⟨i, hi, e⟩ := List.getElem_of_mem h
  rw [List.length_take] at hi
  rw [List.getElem_take] at e
  have a := fAt_get (fs := fs) (k := i) (by omega)
  rw [List.getElem?_eq_getElem (by omega), e] at a
  injection a with a
  subst a
  refine ⟨List.mem_of_mem_take h, ?_⟩
  have := list_asc hf i q (by omega) hq
  omega
 ·obtain ⟨i, hi, e⟩ := List.getElem_of_mem h
  rw [List.length_drop] at hi
  rw [List.getElem_drop] at e
  have a := fAt_get (fs := fs) (k := q + 1 + i) (by omega)
  rw [List.getElem?_eq_getElem (by omega), e] at a
  injection a with a
  subst a
  refine ⟨List.mem_of_mem_drop h, ?_⟩
  have := list_asc hf q (q + 1 + i) (by omega) (by omega)
  omega
theorem more_less {fs gs : List FV} {lim : Int} {ps : List Pt} (h : Proves fs gs lim ps) {q : Nat} (hq : q < fs.length) : Proves (fs.take q ++ fs.drop (q + 1)) gs lim (lessP ps (fAt fs q).id ps.length) := by
 have hsub : (fs.take q ++ fs.drop (q + 1)).Sublist fs := by
  have : fs.eraseIdx q = fs.take q ++ fs.drop (q + 1) := List.eraseIdx_eq_take_drop_succ ..
  rw [← this]
  exact List.eraseIdx_sublist ..
 have hmem : ∀ p, p ∈ lessP ps (fAt fs q).id ps.length ↔ p ∈ ps ∧ p.1 ≠ (fAt fs q).id := fun p => by
  unfold lessP
  rw [List.take_length, List.mem_filter]
  simp
 obtain ⟨o1, o2⟩ := ord_pw h.ord
 refine ⟨list_sub h.lf hsub, h.lg, h.lm, ord_of ?_ fun p hp => o2 p ((hmem p).1 hp).1, fun p hp => ?_, fun f hf hc => ?_⟩
 ·unfold lessP
  rw [List.take_length]
  exact o1.filter _
 ·obtain ⟨hp, hne⟩ := (hmem p).1 hp
  obtain ⟨f, hf, g, hg, e1, e2, e3⟩ := h.good p hp
  exact ⟨f, more_in h.lf hq hf (by rw [e1]; exact hne), g, hg, e1, e2, e3⟩
 ·obtain ⟨hf, hne⟩ := more_out h.lf hq hf
  obtain ⟨p, hp, e⟩ := h.cov f hf hc
  exact ⟨p, (hmem p).2 ⟨hp, by rw [e]; exact hne⟩, e⟩
theorem check_all {fs gs : List FV} {lim : Int} {ps : List Pt} (h : Proves fs gs lim ps) : checkOf fs gs lim ps = (true, 0) := by
 have h1 := check_iff.2 h
 rcases check_code (fs := fs) (gs := gs) (lim := lim) (ps := ps) with ⟨c, _⟩ | ⟨c, _⟩
 ·obtain ⟨⟨a, b⟩, hab⟩ : ∃ d, checkOf fs gs lim ps = d := ⟨_, rfl⟩
  rw [hab] at h1 c ⊢
  dsimp only at h1 c
  rw [h1, c]
 ·rw [c] at h1; cases h1
theorem more_facts {fs gs : List FV} {lim : Int} {ps : List Pt} {f : FV} {x y : Bool} {e g : Int} {v : Bool} (h1 : checkOf fs gs lim ps = (x, e)) (h2 : checkOf fs (gs ++ [f]) lim ps = (y, g)) (hv : FList (gs ++ [f]) = v) :
  e ≠ 0 ∨ (e = 0 ∧ x = false) ∨ (e = 0 ∧ x = true ∧ ((g = 0 ∧ y = true) ∨ (g = 1 ∧ v = false)) ∧ fs.length ≤ 300 ∧ gs.length ≤ 300 ∧ ps.length ≤ 100000 ∧ ∀ q, q < fs.length → checkOf (fs.take q ++ fs.drop (q + 1)) gs lim (lessP ps (fAt fs q).id ps.length) = (true, 0)) := by
 by_cases he : e = 0
 ·cases x
  ·exact .inr (.inl ⟨he, rfl⟩)
  ·have pr : Proves fs gs lim ps := check_iff.1 (by rw [h1])
   refine .inr (.inr ⟨he, rfl, ?_, list_len pr.lf, list_len pr.lg, ord_len pr.ord, fun q hq => check_all (more_less pr hq)⟩)
   cases v
   ·rcases check_code (fs := fs) (gs := gs ++ [f]) (lim := lim) (ps := ps) with ⟨_, c⟩ | ⟨c, _⟩
    ·unfold askedOf at c
     rw [hv] at c
     simp at c
    ·rw [h2] at c
     injection c with c1 c2
     exact .inr ⟨c2, rfl⟩
   ·have := check_all (more_wide pr hv)
    rw [h2] at this
    injection this with c1 c2
    exact .inl ⟨c2, c1⟩
 ·exact .inl he
theorem fflat_drop (fs : List FV) (q : Nat) : (fs.flatMap FV.cells).drop (q * 9) = (fs.drop q).flatMap FV.cells := by
 induction fs generalizing q with
 | nil => simp
 | cons s ss ih =>
  cases q with
  | zero => simp
  | succ q =>
   rw [List.flatMap_cons, List.drop_succ_cons, ← ih q, show (q + 1) * 9 = s.cells.length + q * 9 by rw [fv_len]; omega, List.drop_append]
   simp
/-- What the longer chart is, where the regions meet. -/
def MoreCut (w : World) (gs : List FV) (f : FV) (s : Value) (wc : World) : Prop := ∃ b, wc.ownsRow b 52 9 s (gs ++ [f]).length ((gs ++ [f]).flatMap FV.cells) ∧ Grew w wc
theorem more_fin {w W0 W6 W8 : World} {b n : Nat} {gs : List FV} {f : FV} {u : Value} {xs : List Value} (hown : W6.ownsRow b 52 9 u n xs) (hn : n = gs.length + 1) (hx : xs = gs.flatMap FV.cells ++ f.cells) (h0 : Grew w W0) (hb : Grew W0 W6) (hg : Grew W6 W8) : MoreCut w gs f u W8 := by
 subst hn hx
 refine ⟨b, ?_, h0.trans (hb.trans hg)⟩
 rw [List.flatMap_append, List.length_append]
 simpa using fown_grew hown hg
theorem oneF (f : FV) : ∀ u ∈ f.cells, u.oneCell' = true := by
 have := fv_one [f]
 simpa using this
theorem reads_f {W : World} {b : Nat} {f : FV} {T : TypeId} (h : W.heap[b]? = some (.cells #[.int .i64 f.id, .int .i64 f.kind, .int .i64 f.x, .int .i64 f.y, .int .i64 f.rad, .slice f.aA f.area.length f.ac, .int .i64 f.dep, .int .i64 f.sym, .slice f.sA f.secs.length f.sc] T (0, 0))) : Reads W W.heap.size 9 (some ⟨b, 0, none⟩) 1 f.cells := by
 have := (Rd.blkA (encA := FV.cells) fv_len [f] h rfl).reads fv_len (by omega)
 simpa using this
theorem byte_wf {n : Int} (h : (Lit.int .u8 n).wf = true) : 0 ≤ n ∧ n ≤ 255 := by
 have h1 : IntKind.u8.min = 0 := rfl
 have h2 : IntKind.u8.max = 255 := rfl
 simp only [Lit.wf, Bool.and_eq_true, decide_eq_true_eq] at h
 omega
theorem deriveMore_row (fs : List FV) (A : Option Addr) (c : Nat) (gs : List FV) (A' : Option Addr) (c' : Nat) (lim : Int) (ps : List Pt) (Ap : Option Addr) (cp : Nat) (f : FV) (at0 : Int) (w : World) (hr : FRd w w.heap.size A fs) (hl : fs.length ≤ c) (hc : fs.length ≤ 100000000000000) (hr' : FRd w w.heap.size A' gs) (hc' : gs.length ≤ 100000000000000) (hrp : Rd w w.heap.size 2 Ap (ps.map encD)) (hcp : ps.length ≤ 100000000000000) (hrf : f.rd w w.heap.size) (hat : (Lit.int .u8 at0).wf = true) :
  Calls Tryz.prog 10 #[.slice A fs.length c, .slice A' gs.length c', .int .i64 lim, .slice Ap ps.length cp, f.val, .int .u8 at0] w (Ret w (.bool true)) := by
 have hm := hmix
 obtain ⟨h0b, h1b⟩ := byte_wf hat
 clear hat
 obtain ⟨fw, hfw⟩ : ∃ r, decide (fs.length ≤ 12 ∧ gs.length ≤ 12 ∧ 0 ≤ 12) = r := ⟨_, rfl⟩
 have kf := hide (fun W => few_v A A' none fs.length gs.length c c' 0 0 fw W hfw)
 cases fw
 ·clear hr hr' hrp hrf
  go_enter Tryz.func10, Tryz.ntmps10
  go_wp2_with (first | (go_at_call 11; with_reducible refine crv (head_v _) fun _ _ => ?_; dsimp only) | (go_at_call 12; with_reducible refine crv (kf.out _) fun _ _ => ?_; dsimp only))
  go_ret
  exact Ret.mk' rfl gw
 simp at hfw
 by_cases h40 : 40 < ps.length
 ·have g40 : (40 : Int) < (ps.length : Int) := by omega
  clear hr hr' hrp hrf h40
  go_enter Tryz.func10, Tryz.ntmps10
  go_wp2_with (first | (go_at_call 11; with_reducible refine crv (head_v _) fun _ _ => ?_; dsimp only) | (go_at_call 12; with_reducible refine crv (kf.out _) fun _ _ => ?_; dsimp only))
  go_ret
  exact Ret.mk' rfl gw
 have g40 : ¬ (40 : Int) < (ps.length : Int) := by omega
 obtain ⟨hf12, hg12⟩ := hfw
 obtain ⟨⟨x, e⟩, h1⟩ : ∃ d, checkOf fs gs lim ps = d := ⟨_, rfl⟩
 obtain ⟨⟨y, g⟩, h2⟩ : ∃ d, checkOf fs (gs ++ [f]) lim ps = d := ⟨_, rfl⟩
 obtain ⟨v, hv⟩ : ∃ d, FList (gs ++ [f]) = d := ⟨_, rfl⟩
 have hcase := more_facts h1 h2 hv
 have k1 := hide (fun W (hg : Grew w W) => Check_v fs gs ps A A' Ap c c' cp lim W (hr.up hg) (hr'.up hg) (hrp.up hg) hc hc' hcp)
 rw [h1] at k1
 dsimp only at k1
 have HR := hide hr
 have HR' := hide hr'
 have HRP := hide hrp
 have HRF := hide hrf
 have H2 := hide h2
 have HV := hide hv
 clear hr hr' hrp hrf h1 h2 hv
 rcases hcase with he | ⟨rfl, rfl⟩ | ⟨rfl, rfl, hyg, hl1, hl2, hl3, hall⟩
 ·have hne : (e != 0) = true := by simpa using he
  go_enter Tryz.func10, Tryz.ntmps10
  go_wp2_with (first | (go_at_call 11; with_reducible refine crv (head_v _) fun _ _ => ?_; dsimp only) | (go_at_call 12; with_reducible refine crv (kf.out _) fun _ _ => ?_; dsimp only) | (go_at_call 17; with_reducible refine crv (k1.out _ gw) fun _ _ => ?_; dsimp only))
  go_ret
  exact Ret.mk' rfl gw
 ·go_enter Tryz.func10, Tryz.ntmps10
  go_wp2_with (first | (go_at_call 11; with_reducible refine crv (head_v _) fun _ _ => ?_; dsimp only) | (go_at_call 12; with_reducible refine crv (kf.out _) fun _ _ => ?_; dsimp only) | (go_at_call 17; with_reducible refine crv (k1.out _ gw) fun _ _ => ?_; dsimp only))
  go_ret
  exact Ret.mk' rfl gw
 have HALL := hide hall
 have HYG := hide hyg
 obtain ⟨i0, hi0, hz0, hz1, hz2⟩ := fInfo_parts feInf
 clear hall hyg
 go_enter Tryz.func10, Tryz.ntmps10
 go_upto_region 7 with (first | (go_at_call 11; with_reducible refine crv (head_v _) fun _ _ => ?_; dsimp only) | (go_at_call 12; with_reducible refine crv (kf.out _) fun _ _ => ?_; dsimp only) | (go_at_call 17; with_reducible refine crv (k1.out _ gw) fun _ _ => ?_; dsimp only))
 go_cut [16] (fun s wc => MoreCut w gs f s wc)
 case first =>
  refine wp_name ?_
  intro W0 hW
  have hg0 : Grew w W0 := by rw [← hW]; exact gw
  have hkk : W0.heap[w.heap.size]? = some (.cells #[.int .i64 f.id, .int .i64 f.kind, .int .i64 f.x, .int .i64 f.y, .int .i64 f.rad, .slice f.aA f.area.length f.ac, .int .i64 f.dep, .int .i64 f.sym, .slice f.sA f.secs.length f.sc] 52 (0, 0)) := by rw [← hW]; first | exact heap_alloc_gd _ _ _ _ _ rfl | exact ((gw (a := w.alloc _)).below.block _ (by simp)).trans (heap_alloc_new _ _)
  have c0 : W0.cell? ⟨w.heap.size, 0, none⟩ = _ := blk_cell hkk 0
  have c1 : W0.cell? ⟨w.heap.size, 1, none⟩ = _ := blk_cell hkk 1
  have c2 : W0.cell? ⟨w.heap.size, 2, none⟩ = _ := blk_cell hkk 2
  have c3 : W0.cell? ⟨w.heap.size, 3, none⟩ = _ := blk_cell hkk 3
  have c4 : W0.cell? ⟨w.heap.size, 4, none⟩ = _ := blk_cell hkk 4
  have c5 : W0.cell? ⟨w.heap.size, 5, none⟩ = _ := blk_cell hkk 5
  have c6 : W0.cell? ⟨w.heap.size, 6, none⟩ = _ := blk_cell hkk 6
  have c7 : W0.cell? ⟨w.heap.size, 7, none⟩ = _ := blk_cell hkk 7
  have c8 : W0.cell? ⟨w.heap.size, 8, none⟩ = _ := blk_cell hkk 8
  have cl := blk_lt hkk
  have HG0 := hide hg0
  clear hW hg0 hkk k1 kf
  refine E.wp_region_eff 6 [false, true, false, true, false, false] [0, 2, 4, 5] hm (by kernel_rfl) (by simp only [E.pick, List.take, List.length_cons, List.length_nil, Nat.reduceAdd]; rfl) (by rfl) (by simp only [List.drop, List.take, List.length_cons, List.length_nil, Nat.reduceAdd, Nat.reduceSub]; rfl) (by simp only [List.drop]; rfl) ?_
  repeat (refine wpSteady_step (fun K hK => ?_); go_simp; first | (refine hK _ ?_; clear hK K) | (apply Exists.intro; refine ⟨fun _ => ?_, hK _ ?_⟩; (fail); clear hK K))
  refine wpSteady_nil ?_
  refine E.wpE_ready [0, 4] (by simp) (by kernel_rfl) ?_
  intro e he o ho W1 hg1
  simp only [List.mem_cons, List.not_mem_nil, or_false] at he
  have HG1 : Hid (Grew W0 W1) := hide ((Grew.drew (Grew.refl W0)).trans hg1)
  clear hg1
  rcases he with rfl | rfl
  ·
   simp at ho
   subst ho
   go_simp
   refine ⟨(Below.refl _ _).alloc HG1.out.below.size _, ?_⟩
   refine E.wpE_ready [2, 4] (by simp) (by kernel_rfl) ?_
   intro e he o ho W2 hg2
   simp only [List.mem_cons, List.not_mem_nil, or_false] at he
   have hg12 : Grew W1 W2 := Grew.trans gw hg2
   have hl0 := fown_grew (World.ownsRow_lit (base := W0.heap.size) (e := 52) (size := 9) W1 #[] 0 HG1.out.below.size (by unfold maxLen; omega) rfl) hg2
   have HG2 := hide hg12
   have HL0 := hide hl0
   clear hg2 hg12 hl0
   rcases he with rfl | rfl
   ·
    simp at ho
    subst ho
    have hra := (HR'.out.up (HG0.out.trans (HG1.out.trans HG2.out))).row.reads fv_len (by omega)
    refine E.effUpon_append2 (.tmp 50) (.tmp 51) 22 rfl W0.heap.size 52 i0 _ 9 104 Tryz.underlying22 hi0 hz0 hz1 hz2 (by rfl) (by omega) _ 0 [] (by rfl) HL0.out W2.heap.size A' gs.length c' (gs.flatMap FV.cells) (by rfl) hra (fv_one _) (by unfold maxLen; omega) (by omega) (HG1.out.trans HG2.out).below.size (Nat.le_refl _) ?_
    intro u1 W3 hown3 hb3 _
    have HO3 := hide hown3
    have HG3 : Hid (Grew W0 W3) := hide (Grew.of_below ((HG1.out.trans HG2.out).below.trans hb3))
    clear hown3 hb3 hra
    refine E.wpE_ready [4] (by simp) (by kernel_rfl) ?_
    intro e he o ho W4 hg4
    obtain rfl := List.mem_singleton.1 he
    have HG4 := hide hg4
    clear hg4 he
    simp at ho
    subst ho
    go_simp
    refine ⟨(Below.refl _ _).alloc (HG3.out.trans HG4.out).below.size _, ?_⟩
    refine E.wpE_ready [5] (by simp) (by kernel_rfl) ?_
    intro e he o ho W5 hg5
    obtain rfl := List.mem_singleton.1 he
    have hblk : W5.heap[W4.heap.size]? = _ := (hg5.heap (by simp)).trans (heap_alloc_new _ _)
    have hg35 : Grew W3 W5 := HG4.out.trans (Grew.trans gw hg5)
    have hrb := reads_f (f := f) hblk
    clear hg5 he hblk
    simp at ho
    subst ho
    refine E.effUpon_append2 (.tmp 52) (.tmp 54) 22 rfl W0.heap.size 52 i0 _ 9 104 Tryz.underlying22 hi0 hz0 hz1 hz2 (by rfl) (by omega) u1 _ _ (by rfl) (fown_grew HO3.out hg35) W5.heap.size (some ⟨W4.heap.size, 0, none⟩) 1 1 f.cells (by rfl) hrb (oneF f) (by unfold maxLen; omega) (by omega) (HG3.out.trans hg35).below.size (Nat.le_refl _) ?_
    intro u2 W6 hown6 hb6 _
    refine E.wpE_nil fun W7 hg7 => ?_
    refine L.q2_normal ?_
    repeat (refine wpSteady_step (fun K hK => ?_); go_simp; refine hK _ ?_; clear hK K)
    refine wpSteady_nil ?_
    intro W8 hW3a
    have hfin : MoreCut w gs f u2 W8 := more_fin hown6 (by omega) (by simp) HG0.out (Grew.of_below ((HG3.out.trans hg35).below.trans hb6)) (hg7.trans hW3a)
    clear hown6 hb6 hg7 hW3a hrb hg35
    go_wp2_with fail
    go_meet
    exact hfin
   ·
    simp at ho
    subst ho
    go_simp
    refine ⟨(Below.refl _ _).alloc (HG1.out.trans HG2.out).below.size _, ?_⟩
    refine E.wpE_ready [2] (by simp) (by kernel_rfl) ?_
    intro e he o ho W3 hg3
    obtain rfl := List.mem_singleton.1 he
    have hblk : W3.heap[W2.heap.size]? = _ := (hg3.heap (by simp)).trans (heap_alloc_new _ _)
    have hg23 : Grew W2 W3 := Grew.trans gw hg3
    have hne : W2.heap.size ≠ W1.heap.size := by
     have := (HL0.out.lt W1.heap.size rfl).2
     omega
    have HBK := hide hblk
    have HG3 := hide hg23
    clear hg3 he hblk hg23
    simp at ho
    subst ho
    have hra := (HR'.out.up (HG0.out.trans (HG1.out.trans (HG2.out.trans HG3.out)))).row.reads fv_len (by omega)
    refine E.effUpon_append2 (.tmp 50) (.tmp 51) 22 rfl W0.heap.size 52 i0 _ 9 104 Tryz.underlying22 hi0 hz0 hz1 hz2 (by rfl) (by omega) _ 0 [] (by rfl) (fown_grew HL0.out HG3.out) W3.heap.size A' gs.length c' (gs.flatMap FV.cells) (by rfl) hra (fv_one _) (by unfold maxLen; omega) (by omega) (HG1.out.trans (HG2.out.trans HG3.out)).below.size (Nat.le_refl _) ?_
    intro u1 W4 hown4 hb4 hgb4
    have hblk4 := (hgb4.block W2.heap.size (blk_lt HBK.out) (fun e => hne (Option.some.inj e))).trans HBK.out
    have HO4 := hide hown4
    have HBK4 := hide hblk4
    have HG4 : Hid (Grew W0 W4) := hide (Grew.of_below ((HG1.out.trans (HG2.out.trans HG3.out)).below.trans hb4))
    clear hown4 hb4 hra hgb4 hblk4
    refine E.wpE_ready [5] (by simp) (by kernel_rfl) ?_
    intro e he o ho W5 hg5
    obtain rfl := List.mem_singleton.1 he
    have hblk : W5.heap[W2.heap.size]? = _ := (hg5.heap (blk_lt HBK4.out)).trans HBK4.out
    have hrb := reads_f (f := f) hblk
    have HG5 := hide hg5
    clear hg5 he hblk
    simp at ho
    subst ho
    refine E.effUpon_append2 (.tmp 52) (.tmp 54) 22 rfl W0.heap.size 52 i0 _ 9 104 Tryz.underlying22 hi0 hz0 hz1 hz2 (by rfl) (by omega) u1 _ _ (by rfl) (fown_grew HO4.out HG5.out) W5.heap.size (some ⟨W2.heap.size, 0, none⟩) 1 1 f.cells (by rfl) hrb (oneF f) (by unfold maxLen; omega) (by omega) (HG4.out.trans HG5.out).below.size (Nat.le_refl _) ?_
    intro u2 W6 hown6 hb6 _
    refine E.wpE_nil fun W7 hg7 => ?_
    refine L.q2_normal ?_
    repeat (refine wpSteady_step (fun K hK => ?_); go_simp; refine hK _ ?_; clear hK K)
    refine wpSteady_nil ?_
    intro W8 hW3a
    have hfin : MoreCut w gs f u2 W8 := more_fin hown6 (by omega) (by simp) HG0.out (Grew.of_below ((HG4.out.trans HG5.out).below.trans hb6)) (hg7.trans hW3a)
    clear hown6 hb6 hg7 hW3a hrb
    go_wp2_with fail
    go_meet
    exact hfin
  ·
   simp at ho
   subst ho
   go_simp
   refine ⟨(Below.refl _ _).alloc HG1.out.below.size _, ?_⟩
   refine E.wpE_ready [0] (by simp) (by kernel_rfl) ?_
   intro e he o ho W2 hg2
   obtain rfl := List.mem_singleton.1 he
   have hblk : W2.heap[W1.heap.size]? = _ := (hg2.heap (by simp)).trans (heap_alloc_new _ _)
   have HBK := hide hblk
   have HG2 : Hid (Grew W1 W2) := hide (Grew.trans gw hg2)
   clear hg2 he hblk
   simp at ho
   subst ho
   go_simp
   refine ⟨(Below.refl _ _).alloc (HG1.out.trans HG2.out).below.size _, ?_⟩
   refine E.wpE_ready [2] (by simp) (by kernel_rfl) ?_
   intro e he o ho W3 hg3
   obtain rfl := List.mem_singleton.1 he
   have hl0 := fown_grew (World.ownsRow_lit (base := W0.heap.size) (e := 52) (size := 9) W2 #[] 0 (HG1.out.trans HG2.out).below.size (by unfold maxLen; omega) rfl) hg3
   have hg23 : Grew W2 W3 := Grew.trans gw hg3
   have hblk3 := (hg23.heap (blk_lt HBK.out)).trans HBK.out
   have hne : W1.heap.size ≠ W2.heap.size := by
    have := blk_lt HBK.out
    omega
   have HBK3 := hide hblk3
   have HG3 := hide hg23
   clear hg3 he hblk3 hg23
   simp at ho
   subst ho
   have hra := (HR'.out.up (HG0.out.trans (HG1.out.trans (HG2.out.trans HG3.out)))).row.reads fv_len (by omega)
   refine E.effUpon_append2 (.tmp 50) (.tmp 51) 22 rfl W0.heap.size 52 i0 _ 9 104 Tryz.underlying22 hi0 hz0 hz1 hz2 (by rfl) (by omega) _ 0 [] (by rfl) hl0 W3.heap.size A' gs.length c' (gs.flatMap FV.cells) (by rfl) hra (fv_one _) (by unfold maxLen; omega) (by omega) (HG1.out.trans (HG2.out.trans HG3.out)).below.size (Nat.le_refl _) ?_
   intro u1 W4 hown4 hb4 hgb4
   have hblk4 := (hgb4.block W1.heap.size (blk_lt HBK3.out) (fun e => hne (Option.some.inj e))).trans HBK3.out
   have HO4 := hide hown4
   have HBK4 := hide hblk4
   have HG4 : Hid (Grew W0 W4) := hide (Grew.of_below ((HG1.out.trans (HG2.out.trans HG3.out)).below.trans hb4))
   clear hown4 hb4 hra hgb4 hblk4 hl0
   refine E.wpE_ready [5] (by simp) (by kernel_rfl) ?_
   intro e he o ho W5 hg5
   obtain rfl := List.mem_singleton.1 he
   have hblk : W5.heap[W1.heap.size]? = _ := (hg5.heap (blk_lt HBK4.out)).trans HBK4.out
   have hrb := reads_f (f := f) hblk
   have HG5 := hide hg5
   clear hg5 he hblk
   simp at ho
   subst ho
   refine E.effUpon_append2 (.tmp 52) (.tmp 54) 22 rfl W0.heap.size 52 i0 _ 9 104 Tryz.underlying22 hi0 hz0 hz1 hz2 (by rfl) (by omega) u1 _ _ (by rfl) (fown_grew HO4.out HG5.out) W5.heap.size (some ⟨W1.heap.size, 0, none⟩) 1 1 f.cells (by rfl) hrb (oneF f) (by unfold maxLen; omega) (by omega) (HG4.out.trans HG5.out).below.size (Nat.le_refl _) ?_
   intro u2 W6 hown6 hb6 _
   refine E.wpE_nil fun W7 hg7 => ?_
   refine L.q2_normal ?_
   repeat (refine wpSteady_step (fun K hK => ?_); go_simp; refine hK _ ?_; clear hK K)
   refine wpSteady_nil ?_
   intro W8 hW3a
   have hfin : MoreCut w gs f u2 W8 := more_fin hown6 (by omega) (by simp) HG0.out (Grew.of_below ((HG4.out.trans HG5.out).below.trans hb6)) (hg7.trans hW3a)
   clear hown6 hb6 hg7 hW3a hrb
   go_wp2_with fail
   go_meet
   exact hfin
 case rest =>
  obtain ⟨ba, hown, hgc⟩ := hcut
  obtain ⟨A2, c2, rfl, _, hrd⟩ := Rd.of_own (f := FV.cells) fv_len hown rfl
  have HGC := hide hgc
  have hfr : FRd wc wc.heap.size A2 (gs ++ [f]) := ⟨hrd, fun g hg => by
   rcases List.mem_append.1 hg with h | h
   ·exact (HR'.out.each g h).up hgc
   ·rw [List.mem_singleton.1 h]; exact HRF.out.up hgc⟩
  obtain ⟨ws, hhs⟩ : ∃ l, gs ++ [f] = l := ⟨_, rfl⟩
  have hhl : ws.length ≤ 13 := by rw [← hhs, List.length_append]; simp; omega
  have hv := HV.out
  have h2 := H2.out
  rw [hhs] at hfr hv h2 ⊢
  have HFR := hide hfr
  have k2 := hide (fun W (hg : Grew wc W) => Check_v fs ws ps A A2 Ap c c2 cp lim W (HR.out.up (HGC.out.trans hg)) (HFR.out.up hg) (HRP.out.up (HGC.out.trans hg)) (by omega) (by omega) (by omega))
  have k3 := hide (fun W (hg : Grew wc W) => FList_v ws A2 c2 v W (HFR.out.up hg) (by omega) hv)
  rw [h2] at k2
  dsimp only at k2
  have hyg := HYG.out
  clear hown hgc hrd hfr hhs hv h2 HYG HV H2
  obtain ⟨p0, hp0⟩ : ∃ p, prInfo_parts = p := ⟨_, rfl⟩
  obtain ⟨j0, hj, hy0, hy1, hy2⟩ := prInfo_parts
  clear hp0 p0
  by_cases hz : fs.length = 0
  ·obtain rfl := List.length_eq_zero_iff.1 hz
   dsimp only [List.length_nil] at k2
   clear hz hl hc hf12 hl1 HALL
   rcases hyg with ⟨rfl, rfl⟩ | ⟨rfl, rfl⟩
   all_goals
    go_wp2_with (first | (go_at_call 17; with_reducible refine crv (k2.out _ gw) fun _ _ => ?_; dsimp only) | (go_at_call 28; with_reducible refine crv (k3.out _ gw) fun _ _ => ?_; dsimp only))
    go_ret
    exact Ret.mk' rfl (HGC.out.trans gw)
  ·obtain ⟨q, hq⟩ : ∃ q : Nat, q = at0.toNat % fs.length := ⟨_, rfl⟩
   have hql : q < fs.length := by rw [hq]; exact Nat.mod_lt _ (by omega)
   have hqe : at0 % (fs.length : Int) = (q : Int) := by
    have : at0 = ((at0.toNat : Nat) : Int) := by omega
    rw [hq, Int.natCast_emod, ← this]
   have hqw : IntKind.i64.wrap (at0 % (fs.length : Int)) = (q : Int) := by rw [hqe]; unfold IntKind.wrap; simp [IntKind.bits, IntKind.signed]; omega
   have haw : IntKind.i64.wrap at0 = at0 := by unfold IntKind.wrap; simp [IntKind.bits, IntKind.signed]; omega
   have htm : at0.tmod (fs.length : Int) = (q : Int) := by rw [Int.tmod_eq_emod_of_nonneg h0b, hqe]
   clear hq
   have hne0 : ¬ (fs.length : Int) = 0 := by omega
   have hne1 : ¬ fs = [] := by intro e; rw [e] at hz; simp at hz
   have hck := HALL.out q hql
   obtain ⟨X, hX⟩ : ∃ X, (fAt fs q).id = X := ⟨_, rfl⟩
   rw [hX] at hck
   have HX := hide hX
   have HCK := hide hck
   clear hX hck HALL
   rcases hyg with ⟨rfl, rfl⟩ | ⟨rfl, rfl⟩
   all_goals
    go_wp2_with (first | (go_at_call 17; with_reducible refine crv (k2.out _ gw) fun _ _ => ?_; dsimp only) | (go_at_call 28; with_reducible refine crv (k3.out _ gw) fun _ _ => ?_; dsimp only))
    refine wp_name ?_
    intro Wz hW
    have HGZ : Hid (Grew w Wz) := hide (by rw [← hW]; exact HGC.out.trans gw)
    clear hW
    go_loopw [20, 21] (fun ov i wq => ∃ k : Nat, k ≤ ps.length ∧ i = .int .i64 k ∧ Grew Wz wq ∧ wq.ownsRow Wz.heap.size 64 2 ov (lessP ps X k).length ((lessP ps X k).flatMap encD)) (fun _ i _ => ps.length - (intOf i).toNat)
    case atStart => exact ⟨0, by omega, rfl, gw, World.ownsRow_nil _ _ _ _⟩
    case round =>
     obtain ⟨k, hk, rfl, hg, hown⟩ := hrel
     have HQ := hide hg
     have HO := hide hown
     have hal := lessP_len ps X k
     clear hg hown
     by_cases hlt : k < ps.length
     ·obtain ⟨b, off, hA, hb, h0, h1⟩ := ptAt (HRP.out.up (HGZ.out.trans HQ.out)) (cor_get hlt)
      have hix := idx_run (cap := cp) Tryz.underlying24 Tryz.sizeOf64 hA.out hlt
      obtain ⟨b', off', hA', hb', fc⟩ := rowAt (HR.out.up (HGZ.out.trans HQ.out)).row hql
      have hix2 := idx_run (cap := c) Tryz.underlying22 Tryz.sizeOf52 hA'.out hql
      have d0 := fc.c0
      rw [HX.out] at d0
      have hst := lessP_succ (x := X) hlt
      obtain ⟨p, hp⟩ : ∃ p, cor ps k = p := ⟨_, rfl⟩
      rw [hp] at h0 h1 hst
      obtain ⟨p1, p2⟩ := p
      dsimp only at h0 h1 hst
      obtain ⟨L, hL⟩ : ∃ L, lessP ps X k = L := ⟨_, rfl⟩
      rw [hL] at hal HO hst
      clear hA hA' fc hp hL
      by_cases hpx : p1 = X
      ·rw [hpx] at h0
       rw [if_pos hpx] at hst
       have HST := hide hst
       clear hst hpx
       go_wp2_with fail
       refine wp_region_qas 11 [] [] hm (h := ?_)
       repeat (refine wpSteady_step (fun K hK => ?_); go_simp; refine hK _ ?_; clear hK K)
       refine rq0 fun nq osq => ?_
       try simp only [Act.put, setA]
       try dsimp only
       go_wp2_with fail
       go_roundw
       case rel => exact ⟨k + 1, by omega, by go_num, HQ.out.trans gw, by rw [HST.out]; exact fown_grew HO.out gw⟩
       case measure => simp [intOf]; omega
      ·have hpx2 : (p1 == X) = false := by simpa using hpx
       have hpx3 : (p1 != X) = true := by simpa using hpx
       rw [if_neg hpx] at hst
       have HST := hide hst
       clear hst hpx
       go_wp2_with fail
       refine wp_region_qas 11 [] [] hm (h := ?_)
       repeat (refine wpSteady_step (fun K hK => ?_); go_simp; refine hK _ ?_; clear hK K)
       refine rq0 fun nq osq => ?_
       try simp only [Act.put, setA]
       try dsimp only
       go_wp2_with (at_builtin; refine AppG3.stop ?_)
       refine AppG3.go ?_
       refine wpList_append_any _ rfl (.tmp 107) (.tmp 112) _ rfl Wz.heap.size 64 j0 _ 2 16 Tryz.underlying24 hj hy0 hy1 hy2 rfl (by omega) _ L.length (L.flatMap encD) rfl (fown_grew HO.out gw) _ (some ⟨_, 0, none⟩) 1 1 ([(p1, p2)].flatMap encD) rfl ((Rd.litP _ p1 p2 _ _ (by simp [hs_dr])).reads encD_len (by omega)) (pr_one _) (by simp only [maxLen]; omega) (by omega) (by have := HQ.out.below.size; simp [hs_dr]; omega) ?_
       intro v' w1' hown1 hg1 _
       have HO1 := hide hown1
       have HG1' : Hid (Grew Wz w1') := hide (ggrown (HQ.out.trans gw) (fown_grew HO.out gw) (Nat.le_refl _) hg1)
       clear hown1 hg1
       go_wp2_with fail
       go_roundw
       case rel => exact ⟨k + 1, by omega, by go_num, HG1'.out, by rw [HST.out, List.length_append, List.flatMap_append]; exact HO1.out⟩
       case measure => simp [intOf]; omega
     ·obtain rfl : k = ps.length := by omega
      have hll := lessP_len ps X ps.length
      obtain ⟨Av, cv, rfl, _, hrd⟩ := Rd.of_own (f := encD) encD_len HO.out rfl
      obtain ⟨ls, hls⟩ : ∃ l, lessP ps X ps.length = l := ⟨_, rfl⟩
      have hck := HCK.out
      rw [hls] at hrd hck hll ⊢
      have HRL := hide hrd
      obtain ⟨b, off, hA, hb, _⟩ := rowAt HR.out.row hql
      have hA' := hA.out
      clear hA
      subst hA'
      obtain ⟨ks, hks⟩ : ∃ l, fs.take q ++ fs.drop (q + 1) = l := ⟨_, rfl⟩
      have hkm : ∀ g ∈ ks, g ∈ fs := by
       intro g hg
       rw [← hks] at hg
       rcases List.mem_append.1 hg with h | h
       ·exact List.mem_of_mem_take h
       ·exact List.mem_of_mem_drop h
      have hkl : 0 + q + (fs.length - (q + 1)) = ks.length := by rw [← hks]; simp; omega
      have hkf : [] ++ (fs.take q).flatMap FV.cells ++ (fs.drop (q + 1)).flatMap FV.cells = ks.flatMap FV.cells := by rw [← hks, List.flatMap_append, List.nil_append]
      rw [hks] at hck
      have k4 : Hid (∀ W A9 c9, Grew wr W → Rd W W.heap.size 9 A9 (ks.map FV.cells) → Calls Tryz.prog 17 #[.slice A9 ks.length c9, .slice A' gs.length c', .int .i64 lim, .slice Av ls.length cv] W (Ret W (.tuple #[.bool true, .int .i64 0]))) := hide (fun W A9 c9 hg h => by
       have := Check_v ks gs ls A9 A' Av c9 c' cv lim W ⟨h, fun g hgm => (HR.out.each g (hkm g hgm)).up (HGZ.out.trans (HQ.out.trans hg))⟩ (HR'.out.up (HGZ.out.trans (HQ.out.trans hg))) (HRL.out.up hg) (by omega) (by omega) (by omega)
       rwa [hck] at this)
      have HKL := hide hkl
      have HKF := hide hkf
      have hqle : q ≤ fs.length := by omega
      have hqc : q ≤ c := by omega
      have hq1 : q + 1 ≤ fs.length := by omega
      have hq1c : q + 1 ≤ c := by omega
      have hqw1 : IntKind.i64.wrap ((q : Int) + 1) = (q : Int) + 1 := by unfold IntKind.wrap; simp [IntKind.bits, IntKind.signed]; omega
      have hcq : (c = q + 1) = True ∨ ¬ c = q + 1 := by by_cases h : c = q + 1 <;> simp [h]
      have hc0 : ¬ c = 0 := by omega
      have hq1i : (q : Int) + 1 ≤ (fs.length : Int) := by omega
      have hq0i : (0 : Int) ≤ (q : Int) + 1 := by omega
      have hqci : (q : Int) ≤ (c : Int) := by omega
      have hcqi : ¬ c = q := by omega
      clear hrd hls hck hks hkm hkl hkf HO hll hlt
      rcases hcq with hcq | hcq
      all_goals
       go_wp2_with fail
       refine wp_name ?_
       intro W5 hW
       have HG5 : Hid (Grew wr W5) := hide (by rw [← hW]; exact gw)
       clear hW
       refine E.wp_region_eff 14 [false, true, true, true, false, true, true, true, true, false, true, true, true] [0, 4, 9] hm (by kernel_rfl) (by simp only [E.pick, List.take, List.length_cons, List.length_nil, Nat.reduceAdd]; rfl) (by rfl) (by simp only [List.drop, List.take, List.length_cons, List.length_nil, Nat.reduceAdd, Nat.reduceSub]; rfl) (by simp only [List.drop]; rfl) ?_
       repeat (refine wpSteady_step (fun K hK => ?_); go_simp; first | (refine hK _ ?_; clear hK K) | (apply Exists.intro; refine ⟨fun _ => ?_, hK _ ?_⟩; (fail); clear hK K))
       refine wpSteady_nil ?_
       refine E.wpE_ready [0] (by simp) (by kernel_rfl) ?_
       intro e he o ho W6 hg6
       obtain rfl := List.mem_singleton.1 he
       have HG6 := hide hg6
       clear hg6 he
       simp at ho
       subst ho
       go_simp
       refine ⟨(Below.refl _ _).alloc HG6.out.below.size _, ?_⟩
       refine E.wpE_ready [4] (by simp) (by kernel_rfl) ?_
       intro e he o ho W7 hg7
       obtain rfl := List.mem_singleton.1 he
       have hl0 := fown_grew (World.ownsRow_lit (base := W5.heap.size) (e := 52) (size := 9) W6 #[] 0 HG6.out.below.size (by unfold maxLen; omega) rfl) hg7
       have hg57 : Grew W5 W7 := HG6.out.trans (Grew.trans gw hg7)
       have hra := ((HR.out.up (HGZ.out.trans (HQ.out.trans (HG5.out.trans hg57)))).row.take q)
       rw [← List.map_take] at hra
       have hra2 := hra.reads fv_len (by omega)
       rw [List.length_take, Nat.min_eq_left hqle] at hra2
       have HG7 := hide hg57
       clear hg7 he hg57 hra
       simp at ho
       subst ho
       refine E.effUpon_append2 (.tmp 115) (.tmp 118) 22 rfl W5.heap.size 52 i0 _ 9 104 Tryz.underlying22 hi0 hz0 hz1 hz2 (by rfl) (by omega) _ 0 [] (by rfl) hl0 W7.heap.size (some ⟨b, off, none⟩) q _ ((fs.take q).flatMap FV.cells) rfl hra2 (fv_one _) (by unfold maxLen; omega) (by omega) HG7.out.below.size (Nat.le_refl _) ?_
       intro u1 W8 hown8 hb8 _
       have HO8 := hide hown8
       have HG8 : Hid (Grew W5 W8) := hide (Grew.of_below (HG7.out.below.trans hb8))
       clear hown8 hb8 hra2 hl0
       refine E.wpE_ready [9] (by simp) (by kernel_rfl) ?_
       intro e he o ho W9 hg9
       obtain rfl := List.mem_singleton.1 he
       have hg59 : Grew W5 W9 := HG8.out.trans hg9
       have hcut := ((HR.out.up (HGZ.out.trans (HQ.out.trans (HG5.out.trans hg59)))).row.reads fv_len (by omega)).cut (k := q + 1) (cap := c) hq1 hl
       rw [fflat_drop] at hcut
       first | rw [if_pos (of_eq_true hcq)] at hcut | rw [if_neg hcq] at hcut
       try simp only [Option.map_some, add_at] at hcut
       have HG9 := hide hg59
       have HO9 := hide (fown_grew HO8.out hg9)
       clear hg9 he hg59
       simp at ho
       subst ho
       refine E.effUpon_append2 (.tmp 119) (.tmp 123) 22 rfl W5.heap.size 52 i0 _ 9 104 Tryz.underlying22 hi0 hz0 hz1 hz2 (by rfl) (by omega) u1 _ _ (by rfl) HO9.out W9.heap.size _ (fs.length - (q + 1)) _ ((fs.drop (q + 1)).flatMap FV.cells) rfl hcut (fv_one _) (by unfold maxLen; omega) (by omega) HG9.out.below.size (Nat.le_refl _) ?_
       intro u2 W10 hown10 hb10 _
       rw [HKL.out, HKF.out] at hown10
       obtain ⟨A9, c9, rfl, _, hrd9⟩ := Rd.of_own (f := FV.cells) fv_len hown10 rfl
       have HRD9 := hide hrd9
       have HG10 : Hid (Grew W5 W10) := hide (Grew.of_below (HG9.out.below.trans hb10))
       clear hown10 hb10 hrd9 hcut
       refine E.wpE_nil fun W11 hg11 => ?_
       have HG11 := hide hg11
       clear hg11
       go_wp2_with (go_at_call 17; with_reducible refine crv (k4.out _ _ _ (HG5.out.trans (HG10.out.trans (HG11.out.trans gw))) (HRD9.out.up (HG11.out.trans gw))) fun _ _ => ?_; dsimp only)
       refine L.q2_normal ?_
       repeat (refine wpSteady_step (fun K hK => ?_); go_simp; refine hK _ ?_; clear hK K)
       refine wpSteady_nil ?_
       intro W12 hW3b
       have HG12 := hide hW3b
       clear hW3b
       go_wp2_with fail
       go_ret
       exact Ret.mk' (ret_bool (by simp)) (HGZ.out.trans (HQ.out.trans (HG5.out.trans (HG10.out.trans (HG11.out.trans (Grew.trans gw HG12.out))))))
end Go.Proofs.YtdoiaagajkabcaaGreat
