/- The statement RuleCapsUpto: for every input (of bulk at most 1048576 together) the law returns true, and each argument reads behind the call as it read before. Condition: what the row lists (tied by its card). -/
import Derived.SevenTiedAt
import Derived.ChangeMaps5
import Derived.Test.YtfeccolljfkejaaGreatDoorRowC
import Derived.Test.YtfeccolljfkejaaGreatDoorRcL
set_option linter.unusedSimpArgs false
set_option linter.unusedVariables false
set_option maxRecDepth 100000
namespace Go.Proofs.YtfeccolljfkejaaGreatDoor.ruleCaps
open Go.RowKit Go.Sort Go.ChangeShapes Go.WideShapes Go.ChangeAt Go.Deep
theorem one_le {H : Type} (d : DataW H) : 1 ≤ Rows.uptoBulk d := by
 cases d with
 | lit l => cases l <;> simp [Rows.uptoBulk]
 | nil => simp [Rows.uptoBulk]
 | ptr d => simp [Rows.uptoBulk]
 | slice elems spare => simp [Rows.uptoBulk]
 | agg parts => simp [Rows.uptoBulk]
 | iface t d => simp [Rows.uptoBulk]
 | map entries => simp [Rows.uptoBulk]
 | held h => simp [Rows.uptoBulk]
theorem length_le {H : Type} (l : List (DataW H)) : l.length ≤ Rows.uptoBulkAll l := by
 induction l with
 | nil => simp [Rows.uptoBulkAll]
 | cons x r ih =>
  have := one_le x
  simp only [Rows.uptoBulkAll, List.length_cons]
  omega
theorem slice_bulk {H : Type} {enc : TypeId × Value → H} {w : World} {base : Nat} {sp : Nat → Bool} {held : Bool} {t e : TypeId} {A : Option Addr} {n c : Nat} {d : DataW H} {p : List MemPlace} (ht : Tryz.prog.underlying t = some (.slice e)) (h : DataW.Trod enc Tryz.prog w base sp held t (.slice A n c) d p) : n ≤ Rows.uptoBulk d := by
 obtain ⟨fuel, hf⟩ := h
 rcases DataW.trod_slice ht hf with ⟨h1, _⟩ | ⟨a, len, cap, elems, rest, n', _, hcs, hx, _, _, _, hlen, _⟩
 ·simp [Value.cells] at h1
  omega
 ·simp [Value.cells] at hcs
  have hd := congrArg Prod.fst hx
  dsimp only at hd
  rw [hd]
  simp only [Rows.uptoBulk]
  have h2 := length_le (elems.map (·.1))
  rw [List.length_map] at h2
  omega
theorem contract (H : Type) (enc : TypeId × Value → H) (W : World) (base : Nat) (args : Array Value) (ds gs : List (DataW H)) (before : List MemPlace)
  (hval0 : ∀ (j : Nat) t v, Tryz.f7.params[j]? = some t → args[j]? = some v → Value.okWide Tryz.prog W .any base t v)
  (hW : DataW.Whole enc Tryz.prog Tryz.f7.params.toList Rows.ruleCapsSpec.vars false W args.toList ds gs before)
  (hsz0 : (DataW.weightsEach Tryz.prog (Tryz.f7.params.toList ++ Rows.ruleCapsSpec.plain.varTypes Tryz.prog) (ds ++ gs)).all (· ≤ reachBytes) = true) (hbk : Rows.uptoSmall H (ds ++ gs) = true) (hL : laidMetH Tryz.prog laidL W) :
  Calls Tryz.prog 7 args W fun e W' => ∃ v, e = .returned v ∧ Rows.ruleCapsSpec.post enc Tryz.prog Tryz.f7 false true false false W args v W' := by
 have hsz := hsz0
 have hval := hval0
 have hW' := hW
 obtain ⟨p, q, hA0, hV, rfl, _, _⟩ := hW
 have hA : DataW.TrodAll enc Tryz.prog W 0 (fun _ => true) true Tryz.f7.params.toList args.toList ds p := hA0
 rw [Tryz.params7] at hA hval hsz
 obtain ⟨v0, vs0, d0, ds0, p0, q0, hargs, rfl, rfl, h0, r0⟩ := trodAll_cons hA
 obtain ⟨v1, vs1, d1, ds1, p1, q1, rfl, rfl, rfl, h1, r1⟩ := trodAll_cons r0
 obtain ⟨v2, vs2, d2, ds2, p2, q2, rfl, rfl, rfl, h2, r2⟩ := trodAll_cons r1
 obtain ⟨v3, vs3, d3, ds3, p3, q3, rfl, rfl, rfl, h3, r3⟩ := trodAll_cons r2
 obtain ⟨rfl, rfl, rfl⟩ := trodAll_nil r3
 obtain rfl : args = #[v0, v1, v2, v3] := by cases args; simp_all
 obtain ⟨rfl, rfl⟩ := trodVars_none hV
 clear hA0 hval0
 simp only [List.append_nil] at hW'
 have hlt0 : ∀ x ∈ p0, x.block < W.heap.size := fun x hx => by simpa using hW'.lt x (by simp [hx])
 have k0 := h0
 obtain ⟨s0, A0, c0, rfl, hl0, hc0, hr0⟩ := open_rus (hval 0 22 v0 rfl rfl) k0 hlt0 (sized_any hsz (j := 0) rfl rfl)
 have hlt1 : ∀ x ∈ p1, x.block < W.heap.size := fun x hx => by simpa using hW'.lt x (by simp [hx])
 have k1 := h1
 obtain ⟨s1, A1, c1, rfl, hl1, hc1, hr1⟩ := open_rus (hval 1 22 v1 rfl rfl) k1 hlt1 (sized_any hsz (j := 1) rfl rfl)
 have hlt2 : ∀ x ∈ p2, x.block < W.heap.size := fun x hx => by simpa using hW'.lt x (by simp [hx])
 have k2 := h2
 obtain ⟨a2, rfl, _, _, wa2⟩ := open_int Tryz.underlying3 (hval 2 3 v2 rfl rfl) k2
 have hlt3 : ∀ x ∈ p3, x.block < W.heap.size := fun x hx => by simpa using hW'.lt x (by simp [hx])
 have k3 := h3
 obtain ⟨s3, A3, c3, rfl, hl3, hc3, hr3⟩ := open_fes (hval 3 37 v3 rfl rfl) k3 hlt3 (sized_any hsz (j := 3) rfl rfl)
 have hargs : ∀ (W' : World), Below W.heap.size W W' → ∀ t v d p, DataW.Trod enc Tryz.prog W 0 (fun _ => true) true t v d p → (∀ x ∈ p, x.block < W.heap.size) → Tryz.prog.readableRec t = true → t < Tryz.prog.types.size → DataW.Trod enc Tryz.prog W' 0 (fun b => decide (b < W.heap.size)) true t v d p :=
  fun W' hn t v d p h hlt hr ht => Below.trod laidOut hr ht h hn hlt
 have hbd : s0.length ≤ 1048576 ∧ s1.length ≤ 1048576 := by
  have hh := of_decide_eq_true hbk
  simp only [List.append_nil, Rows.uptoBulkAll] at hh
  have b0 := slice_bulk Tryz.underlying22 h0
  have b1 := slice_bulk Tryz.underlying22 h1
  omega
 refine (ruleCaps_row s0 A0 c0 s1 A1 c1 a2 s3 A3 c3 W hr0 hc0 hr1 hc1  hr3 hc3 hbd (of_laid hL)).mono fun e W' ⟨he, hg⟩ => ?_
 subst he
 exact ⟨_, rfl, _, _, _, [], _, [], hW', trodAll_cons_mk (shut_bool Tryz.underlying4 _) trodAll_mk0, (trodAll_cons_mk (hargs W' hg.below 22 _ d0 p0 h0 hlt0 (by kernel_rfl) (of_decide_eq_true (by kernel_rfl))) (trodAll_cons_mk (hargs W' hg.below 22 _ d1 p1 h1 hlt1 (by kernel_rfl) (of_decide_eq_true (by kernel_rfl))) (trodAll_cons_mk (hargs W' hg.below 3 _ d2 p2 h2 hlt2 (by kernel_rfl) (of_decide_eq_true (by kernel_rfl))) (trodAll_cons_mk (hargs W' hg.below 37 _ d3 p3 h3 hlt3 (by kernel_rfl) (of_decide_eq_true (by kernel_rfl))) trodAll_mk0)))), rfl, hg.below.frame _, fun h => by cases h⟩
theorem reads (w : World) {H : Type} (enc : TypeId × Value → H) : ∃ places, DataW.whole enc Tryz.prog w Tryz.f7.params.toList Rows.ruleCapsSpec.vars false ((#[.slice none 0 0, .slice none 0 0, .int .i64 0, .slice none 0 0] : Array Value)).toList 8 = some ([.nil, .nil, .lit (.int .i64 0), .nil], [], places) :=
 ⟨[], by kernel_rfl⟩
theorem okw (w : World) : Input.okWideB Tryz.prog w 7 ⟨#[], #[.slice none 0 0, .slice none 0 0, .int .i64 0, .slice none 0 0], []⟩ = true := by kernel_rfl
theorem szd (w : World) {H : Type} (enc : TypeId × Value → H) : (Rows.OpenSpec.upto Rows.ruleCapsSpec).bare.sizedB enc Tryz.prog Tryz.f7 false w #[.slice none 0 0, .slice none 0 0, .int .i64 0, .slice none 0 0] 8 = true := by kernel_rfl
theorem lifted (os : Os) (started : os.Started) (H : Type) (enc : TypeId × Value → H) (F : Stop.Interp) :
  ReturnsInHanded {} Tryz.checked os 7 .any ((Rows.OpenSpec.upto Rows.ruleCapsSpec).preRow enc Tryz.prog Tryz.f7 Rows.ruleCapsUptoRow.domain false Rows.ruleCapsUptoRow.laid) (((Rows.OpenSpec.upto Rows.ruleCapsSpec).at F).post enc Tryz.prog Tryz.f7 false true false false) := by
 obtain ⟨places, hx⟩ := reads (laidW os #[.slice none 0 0, .slice none 0 0, .int .i64 0, .slice none 0 0]).memory enc
 refine returnsInHanded_of_row (C := Tryz.checked) (s := Rows.OpenSpec.upto Rows.ruleCapsSpec) own started (by kernel_rfl) Tryz.func7
  (laid_wit (enc := enc) #[.slice none 0 0, .slice none 0 0, .int .i64 0, .slice none 0 0] (laid_shape os _) (okw _) (OpenSpec.preRow_of_cond 8 hx (by kernel_rfl) (fun k hk => by cases hk; kernel_rfl) (szd _ enc) (laid_met os _))) ?_
 intro W base args ds gs before hval hW _ hcond hsz hL _ _
 exact contract H enc W base args ds gs before hval hW hsz (hcond _ rfl) hL
theorem said : Rows.RuleCapsUptoSaid :=
 OpenClaim.holds_of_cond 7 Tryz.f7 rfl rfl rfl rfl rfl rfl rfl ⟨rfl, rfl, rfl, rfl, rfl⟩ rfl rfl rfl rfl rfl (by kernel_rfl) Tryz.func7 (by kernel_rfl)
  (of_decide_eq_true (by kernel_rfl)) (by unfold Func.isWrapper; first | (rw [if_pos (by decide +kernel)]; kernel_rfl) | (rw [if_neg (by decide +kernel)]; exact ⟨rfl, rfl⟩))
  (fun os started H enc _ F => by rw [OpenClaim.pre_eq_preRow]; exact lifted os started H enc F)
theorem plain (f : FuncId) (fn : Func) (hf : Tryz.pinned.checked.prog.funcNamed "seamark/seamarklaw12.RuleCaps" = some f) (hfn : Tryz.pinned.checked.prog.funcs[f]? = some fn) :
  true = Tryz.pinned.checked.prog.looks [] ∧ ∀ (j : Nat) t, fn.params[j]? = some t → Tryz.pinned.checked.prog.wantsStandIn t = false := by
 obtain rfl : f = 7 := Option.some.inj ((show Tryz.prog.funcNamed "seamark/seamarklaw12.RuleCaps" = some 7 by kernel_rfl).symm.trans hf) |>.symm
 obtain rfl : fn = Tryz.f7 := (Option.some.inj (Tryz.func7.symm.trans hfn)).symm
 refine ⟨looksT, fun j t ht => ?_⟩
 rw [Tryz.params7] at ht
 have hm : t ∈ [22, 22, 3, 37] := by simpa using Array.mem_of_getElem? ht
 have hall : ([22, 22, 3, 37].all fun u => !Tryz.prog.wantsStandIn u) = true := by kernel_rfl
 exact (show Tryz.prog.wantsStandIn t = false by simpa using List.all_eq_true.1 hall t hm)
/-- The statement. -/
theorem proved : Rows.RuleCapsUptoCardSaid :=
 Claim7.holds_tied_plain_at .later [] _ _ _ _ said (fun _ h => by cases h) (by kernel_rfl) (fun _ h => by cases h) ruleCapsUpto_row_tie rfl ⟨rfl, rfl⟩ (by kernel_rfl) rfl plain (by kernel_rfl)
end Go.Proofs.YtfeccolljfkejaaGreatDoor.ruleCaps
