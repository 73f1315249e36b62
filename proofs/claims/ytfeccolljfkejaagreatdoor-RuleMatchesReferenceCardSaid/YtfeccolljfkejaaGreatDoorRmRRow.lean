/- The statement RuleMatchesReference: for every input the law returns true, and each argument reads behind the call as it read before. Condition: what the row lists (tied by its card). -/
import Derived.SevenTiedAt
import Derived.ChangeMaps5
import Derived.Test.YtfeccolljfkejaaGreatDoorRowC
import Derived.Test.YtfeccolljfkejaaGreatDoorRmW
set_option linter.unusedSimpArgs false
set_option linter.unusedVariables false
set_option maxRecDepth 100000
namespace Go.Proofs.YtfeccolljfkejaaGreatDoor.ruleMatchesReference
open Go.RowKit Go.Sort Go.ChangeShapes Go.WideShapes Go.ChangeAt Go.Deep
theorem contract (H : Type) (enc : TypeId × Value → H) (W : World) (base : Nat) (args : Array Value) (ds gs : List (DataW H)) (before : List MemPlace)
  (hval0 : ∀ (j : Nat) t v, Tryz.f8.params[j]? = some t → args[j]? = some v → Value.okWide Tryz.prog W .any base t v)
  (hW : DataW.Whole enc Tryz.prog Tryz.f8.params.toList Rows.ruleMatchesReferenceSpec.vars false W args.toList ds gs before)
  (hsz0 : (DataW.weightsEach Tryz.prog (Tryz.f8.params.toList ++ Rows.ruleMatchesReferenceSpec.plain.varTypes Tryz.prog) (ds ++ gs)).all (· ≤ reachBytes) = true) (hL : laidMetH Tryz.prog laidL W) :
  Calls Tryz.prog 8 args W fun e W' => ∃ v, e = .returned v ∧ Rows.ruleMatchesReferenceSpec.post enc Tryz.prog Tryz.f8 false true false false W args v W' := by
 have hsz := hsz0
 have hval := hval0
 have hW' := hW
 obtain ⟨p, q, hA0, hV, rfl, _, _⟩ := hW
 have hA : DataW.TrodAll enc Tryz.prog W 0 (fun _ => true) true Tryz.f8.params.toList args.toList ds p := hA0
 rw [Tryz.params8] at hA hval hsz
 obtain ⟨v0, vs0, d0, ds0, p0, q0, hargs, rfl, rfl, h0, r0⟩ := trodAll_cons hA
 obtain ⟨v1, vs1, d1, ds1, p1, q1, rfl, rfl, rfl, h1, r1⟩ := trodAll_cons r0
 obtain ⟨v2, vs2, d2, ds2, p2, q2, rfl, rfl, rfl, h2, r2⟩ := trodAll_cons r1
 obtain ⟨v3, vs3, d3, ds3, p3, q3, rfl, rfl, rfl, h3, r3⟩ := trodAll_cons r2
 obtain ⟨rfl, rfl, rfl⟩ := trodAll_nil r3
 obtain rfl : args = #[v0, v1, v2, v3] := by cases args; simp_all
 obtain ⟨rfl, rfl⟩ := trodVars_none hV
 clear hA0 hval0
 simp only [List.append_nil] at hW'
 have hlt0 : ∀ x ∈ p0, x.block < W.heap.size := fun x hx => by simpa using hW'.lt x (by simp [hx])
 have k0 := h0
 obtain ⟨s0, rfl, _, _, hs0⟩ := Go.ChangeMaps.open_string Tryz.underlying9 (hval 0 9 v0 rfl rfl) k0
 have hlt1 : ∀ x ∈ p1, x.block < W.heap.size := fun x hx => by simpa using hW'.lt x (by simp [hx])
 have k1 := h1
 obtain ⟨s1, A1, c1, rfl, hl1, hc1, hr1⟩ := open_rus (hval 1 22 v1 rfl rfl) k1 hlt1 (sized_any hsz (j := 1) rfl rfl)
 have hlt2 : ∀ x ∈ p2, x.block < W.heap.size := fun x hx => by simpa using hW'.lt x (by simp [hx])
 have k2 := h2
 obtain ⟨ro2, rk2, rn2, rfl⟩ := open_ru (hval 2 36 v2 rfl rfl) k2
 have hlt3 : ∀ x ∈ p3, x.block < W.heap.size := fun x hx => by simpa using hW'.lt x (by simp [hx])
 have k3 := h3
 obtain ⟨s3, A3, c3, rfl, hl3, hc3, hr3⟩ := open_fes (hval 3 37 v3 rfl rfl) k3 hlt3 (sized_any hsz (j := 3) rfl rfl)
 have hargs : ∀ (W' : World), Below W.heap.size W W' → ∀ t v d p, DataW.Trod enc Tryz.prog W 0 (fun _ => true) true t v d p → (∀ x ∈ p, x.block < W.heap.size) → Tryz.prog.readableRec t = true → t < Tryz.prog.types.size → DataW.Trod enc Tryz.prog W' 0 (fun b => decide (b < W.heap.size)) true t v d p :=
  fun W' hn t v d p h hlt hr ht => Below.trod laidOut hr ht h hn hlt
 refine (ruleMatches_row s0 s1 A1 c1 ro2 rk2 rn2 s3 A3 c3 W hs0 hr1 hc1  hr3 hc3 (of_laid hL)).mono fun e W' ⟨he, hg⟩ => ?_
 subst he
 exact ⟨_, rfl, _, _, _, [], _, [], hW', trodAll_cons_mk (shut_bool Tryz.underlying4 _) trodAll_mk0, (trodAll_cons_mk (hargs W' hg.below 9 _ d0 p0 h0 hlt0 (by kernel_rfl) (of_decide_eq_true (by kernel_rfl))) (trodAll_cons_mk (hargs W' hg.below 22 _ d1 p1 h1 hlt1 (by kernel_rfl) (of_decide_eq_true (by kernel_rfl))) (trodAll_cons_mk (hargs W' hg.below 36 _ d2 p2 h2 hlt2 (by kernel_rfl) (of_decide_eq_true (by kernel_rfl))) (trodAll_cons_mk (hargs W' hg.below 37 _ d3 p3 h3 hlt3 (by kernel_rfl) (of_decide_eq_true (by kernel_rfl))) trodAll_mk0)))), rfl, hg.below.frame _, fun h => by cases h⟩
theorem reads (w : World) {H : Type} (enc : TypeId × Value → H) : ∃ places, DataW.whole enc Tryz.prog w Tryz.f8.params.toList Rows.ruleMatchesReferenceSpec.vars false ((#[.string ⟨#[]⟩, .slice none 0 0, .agg #[.int .i64 0, .int .i64 0, .int .i64 0], .slice none 0 0] : Array Value)).toList 8 = some ([.lit (.string []), .nil, .agg [.lit (.int .i64 0), .lit (.int .i64 0), .lit (.int .i64 0)], .nil], [], places) :=
 ⟨[], by kernel_rfl⟩
theorem okw (w : World) : Input.okWideB Tryz.prog w 8 ⟨#[], #[.string ⟨#[]⟩, .slice none 0 0, .agg #[.int .i64 0, .int .i64 0, .int .i64 0], .slice none 0 0], []⟩ = true := by kernel_rfl
theorem szd (w : World) {H : Type} (enc : TypeId × Value → H) : (OpenSpec.ofChange Rows.ruleMatchesReferenceSpec).bare.sizedB enc Tryz.prog Tryz.f8 false w #[.string ⟨#[]⟩, .slice none 0 0, .agg #[.int .i64 0, .int .i64 0, .int .i64 0], .slice none 0 0] 8 = true := by kernel_rfl
theorem lifted (os : Os) (started : os.Started) (H : Type) (enc : TypeId × Value → H) (F : Stop.Interp) :
  ReturnsInHanded {} Tryz.checked os 8 .any ((OpenSpec.ofChange Rows.ruleMatchesReferenceSpec).preRow enc Tryz.prog Tryz.f8 Rows.ruleMatchesReferenceRow.domain false Rows.ruleMatchesReferenceRow.laid) (((OpenSpec.ofChange Rows.ruleMatchesReferenceSpec).at F).post enc Tryz.prog Tryz.f8 false true false false) := by
 obtain ⟨places, hx⟩ := reads (laidW os #[.string ⟨#[]⟩, .slice none 0 0, .agg #[.int .i64 0, .int .i64 0, .int .i64 0], .slice none 0 0]).memory enc
 refine returnsInHanded_of_row (C := Tryz.checked) (s := OpenSpec.ofChange Rows.ruleMatchesReferenceSpec) own started (by kernel_rfl) Tryz.func8
  (laid_wit (enc := enc) #[.string ⟨#[]⟩, .slice none 0 0, .agg #[.int .i64 0, .int .i64 0, .int .i64 0], .slice none 0 0] (laid_shape os _) (okw _) (OpenSpec.preRow_of_cond 8 hx (by kernel_rfl) (fun k hk => by cases hk) (szd _ enc) (laid_met os _))) ?_
 intro W base args ds gs before hval hW _ hcond hsz hL _ _
 exact contract H enc W base args ds gs before hval hW hsz hL
theorem said : Rows.RuleMatchesReferenceSaid :=
 OpenClaim.holds_of_cond 8 Tryz.f8 rfl rfl rfl rfl rfl rfl rfl ⟨rfl, rfl, rfl, rfl, rfl⟩ rfl rfl rfl rfl rfl (by kernel_rfl) Tryz.func8 (by kernel_rfl)
  (of_decide_eq_true (by kernel_rfl)) (by unfold Func.isWrapper; first | (rw [if_pos (by decide +kernel)]; kernel_rfl) | (rw [if_neg (by decide +kernel)]; exact ⟨rfl, rfl⟩))
  (fun os started H enc _ F => by rw [OpenClaim.pre_eq_preRow]; exact lifted os started H enc F)
theorem plain (f : FuncId) (fn : Func) (hf : Tryz.pinned.checked.prog.funcNamed "seamark/seamarklaw12.RuleMatchesReference" = some f) (hfn : Tryz.pinned.checked.prog.funcs[f]? = some fn) :
  true = Tryz.pinned.checked.prog.looks [] ∧ ∀ (j : Nat) t, fn.params[j]? = some t → Tryz.pinned.checked.prog.wantsStandIn t = false := by
 obtain rfl : f = 8 := Option.some.inj ((show Tryz.prog.funcNamed "seamark/seamarklaw12.RuleMatchesReference" = some 8 by kernel_rfl).symm.trans hf) |>.symm
 obtain rfl : fn = Tryz.f8 := (Option.some.inj (Tryz.func8.symm.trans hfn)).symm
 refine ⟨looksT, fun j t ht => ?_⟩
 rw [Tryz.params8] at ht
 have hm : t ∈ [9, 22, 36, 37] := by simpa using Array.mem_of_getElem? ht
 have hall : ([9, 22, 36, 37].all fun u => !Tryz.prog.wantsStandIn u) = true := by kernel_rfl
 exact (show Tryz.prog.wantsStandIn t = false by simpa using List.all_eq_true.1 hall t hm)
/-- The statement. -/
theorem proved : Rows.RuleMatchesReferenceCardSaid :=
 Claim7.holds_tied_plain_at .later [] _ _ _ _ said (fun _ h => by cases h) (by kernel_rfl) (fun _ h => by cases h) ruleMatchesReference_row_tie rfl ⟨rfl, rfl⟩ (by kernel_rfl) rfl plain (by kernel_rfl)
end Go.Proofs.YtfeccolljfkejaaGreatDoor.ruleMatchesReference
