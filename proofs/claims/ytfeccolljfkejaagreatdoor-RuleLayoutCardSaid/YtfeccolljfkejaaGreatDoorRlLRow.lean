/- The statement RuleLayout: for every input the law returns true, and each argument reads behind the call as it read before. Condition: what the row lists (tied by its card). -/
import Derived.SevenTiedAt
import Derived.ChangeMaps5
import Derived.Test.YtfeccolljfkejaaGreatDoorRowC
import Derived.Test.YtfeccolljfkejaaGreatDoorRlL
set_option linter.unusedSimpArgs false
set_option linter.unusedVariables false
set_option maxRecDepth 100000
namespace Go.Proofs.YtfeccolljfkejaaGreatDoor.ruleLayout
open Go.RowKit Go.Sort Go.ChangeShapes Go.WideShapes Go.ChangeAt Go.Deep
theorem contract (H : Type) (enc : TypeId × Value → H) (W : World) (base : Nat) (args : Array Value) (ds gs : List (DataW H)) (before : List MemPlace)
  (hval0 : ∀ (j : Nat) t v, Tryz.f4.params[j]? = some t → args[j]? = some v → Value.okWide Tryz.prog W .any base t v)
  (hW : DataW.Whole enc Tryz.prog Tryz.f4.params.toList Rows.ruleLayoutSpec.vars false W args.toList ds gs before)
  (hsz0 : (DataW.weightsEach Tryz.prog (Tryz.f4.params.toList ++ Rows.ruleLayoutSpec.plain.varTypes Tryz.prog) (ds ++ gs)).all (· ≤ reachBytes) = true) (hL : laidMetH Tryz.prog laidL W) :
  Calls Tryz.prog 4 args W fun e W' => ∃ v, e = .returned v ∧ Rows.ruleLayoutSpec.post enc Tryz.prog Tryz.f4 false true false false W args v W' := by
 have hsz := hsz0
 have hval := hval0
 have hW' := hW
 obtain ⟨p, q, hA0, hV, rfl, _, _⟩ := hW
 have hA : DataW.TrodAll enc Tryz.prog W 0 (fun _ => true) true Tryz.f4.params.toList args.toList ds p := hA0
 rw [Tryz.params4] at hA hval hsz
 obtain ⟨v0, vs0, d0, ds0, p0, q0, hargs, rfl, rfl, h0, r0⟩ := trodAll_cons hA
 obtain ⟨v1, vs1, d1, ds1, p1, q1, rfl, rfl, rfl, h1, r1⟩ := trodAll_cons r0
 obtain ⟨v2, vs2, d2, ds2, p2, q2, rfl, rfl, rfl, h2, r2⟩ := trodAll_cons r1
 obtain ⟨rfl, rfl, rfl⟩ := trodAll_nil r2
 obtain rfl : args = #[v0, v1, v2] := by cases args; simp_all
 obtain ⟨rfl, rfl⟩ := trodVars_none hV
 clear hA0 hval0
 simp only [List.append_nil] at hW'
 have hlt0 : ∀ x ∈ p0, x.block < W.heap.size := fun x hx => by simpa using hW'.lt x (by simp [hx])
 have k0 := h0
 obtain ⟨s0, rfl, _, _, hs0⟩ := Go.ChangeMaps.open_string Tryz.underlying9 (hval 0 9 v0 rfl rfl) k0
 have hlt1 : ∀ x ∈ p1, x.block < W.heap.size := fun x hx => by simpa using hW'.lt x (by simp [hx])
 have k1 := h1
 obtain ⟨s1, rfl, _, _, hs1⟩ := Go.ChangeMaps.open_string Tryz.underlying9 (hval 1 9 v1 rfl rfl) k1
 have hlt2 : ∀ x ∈ p2, x.block < W.heap.size := fun x hx => by simpa using hW'.lt x (by simp [hx])
 have k2 := h2
 obtain ⟨s2, A2, c2, rfl, hl2, hc2, hr2⟩ := open_bools (hval 2 31 v2 rfl rfl) k2 hlt2 (sized_any hsz (j := 2) rfl rfl)
 have hargs : ∀ (W' : World), Below W.heap.size W W' → ∀ t v d p, DataW.Trod enc Tryz.prog W 0 (fun _ => true) true t v d p → (∀ x ∈ p, x.block < W.heap.size) → Tryz.prog.readableRec t = true → t < Tryz.prog.types.size → DataW.Trod enc Tryz.prog W' 0 (fun b => decide (b < W.heap.size)) true t v d p :=
  fun W' hn t v d p h hlt hr ht => Below.trod laidOut hr ht h hn hlt
 refine (ruleLayout_row s0 s1 s2 A2 c2 W hs0 hs1 hr2 hc2 (of_laid hL)).mono fun e W' ⟨he, hg⟩ => ?_
 subst he
 exact ⟨_, rfl, _, _, _, [], _, [], hW', trodAll_cons_mk (shut_bool Tryz.underlying4 _) trodAll_mk0, (trodAll_cons_mk (hargs W' hg.below 9 _ d0 p0 h0 hlt0 (by kernel_rfl) (of_decide_eq_true (by kernel_rfl))) (trodAll_cons_mk (hargs W' hg.below 9 _ d1 p1 h1 hlt1 (by kernel_rfl) (of_decide_eq_true (by kernel_rfl))) (trodAll_cons_mk (hargs W' hg.below 31 _ d2 p2 h2 hlt2 (by kernel_rfl) (of_decide_eq_true (by kernel_rfl))) trodAll_mk0))), rfl, hg.below.frame _, fun h => by cases h⟩
theorem reads (w : World) {H : Type} (enc : TypeId × Value → H) : ∃ places, DataW.whole enc Tryz.prog w Tryz.f4.params.toList Rows.ruleLayoutSpec.vars false ((#[.string ⟨#[]⟩, .string ⟨#[]⟩, .slice none 0 0] : Array Value)).toList 8 = some ([.lit (.string []), .lit (.string []), .nil], [], places) :=
 ⟨[], by kernel_rfl⟩
theorem okw (w : World) : Input.okWideB Tryz.prog w 4 ⟨#[], #[.string ⟨#[]⟩, .string ⟨#[]⟩, .slice none 0 0], []⟩ = true := by kernel_rfl
theorem szd (w : World) {H : Type} (enc : TypeId × Value → H) : (OpenSpec.ofChange Rows.ruleLayoutSpec).bare.sizedB enc Tryz.prog Tryz.f4 false w #[.string ⟨#[]⟩, .string ⟨#[]⟩, .slice none 0 0] 8 = true := by kernel_rfl
theorem lifted (os : Os) (started : os.Started) (H : Type) (enc : TypeId × Value → H) (F : Stop.Interp) :
  ReturnsInHanded {} Tryz.checked os 4 .any ((OpenSpec.ofChange Rows.ruleLayoutSpec).preRow enc Tryz.prog Tryz.f4 Rows.ruleLayoutRow.domain false Rows.ruleLayoutRow.laid) (((OpenSpec.ofChange Rows.ruleLayoutSpec).at F).post enc Tryz.prog Tryz.f4 false true false false) := by
 obtain ⟨places, hx⟩ := reads (laidW os #[.string ⟨#[]⟩, .string ⟨#[]⟩, .slice none 0 0]).memory enc
 refine returnsInHanded_of_row (C := Tryz.checked) (s := OpenSpec.ofChange Rows.ruleLayoutSpec) own started (by kernel_rfl) Tryz.func4
  (laid_wit (enc := enc) #[.string ⟨#[]⟩, .string ⟨#[]⟩, .slice none 0 0] (laid_shape os _) (okw _) (OpenSpec.preRow_of_cond 8 hx (by kernel_rfl) (fun k hk => by cases hk) (szd _ enc) (laid_met os _))) ?_
 intro W base args ds gs before hval hW _ hcond hsz hL _ _
 exact contract H enc W base args ds gs before hval hW hsz hL
theorem said : Rows.RuleLayoutSaid :=
 OpenClaim.holds_of_cond 4 Tryz.f4 rfl rfl rfl rfl rfl rfl rfl ⟨rfl, rfl, rfl, rfl, rfl⟩ rfl rfl rfl rfl rfl (by kernel_rfl) Tryz.func4 (by kernel_rfl)
  (of_decide_eq_true (by kernel_rfl)) (by unfold Func.isWrapper; first | (rw [if_pos (by decide +kernel)]; kernel_rfl) | (rw [if_neg (by decide +kernel)]; exact ⟨rfl, rfl⟩))
  (fun os started H enc _ F => by rw [OpenClaim.pre_eq_preRow]; exact lifted os started H enc F)
theorem plain (f : FuncId) (fn : Func) (hf : Tryz.pinned.checked.prog.funcNamed "seamark/seamarklaw12.RuleLayout" = some f) (hfn : Tryz.pinned.checked.prog.funcs[f]? = some fn) :
  true = Tryz.pinned.checked.prog.looks [] ∧ ∀ (j : Nat) t, fn.params[j]? = some t → Tryz.pinned.checked.prog.wantsStandIn t = false := by
 obtain rfl : f = 4 := Option.some.inj ((show Tryz.prog.funcNamed "seamark/seamarklaw12.RuleLayout" = some 4 by kernel_rfl).symm.trans hf) |>.symm
 obtain rfl : fn = Tryz.f4 := (Option.some.inj (Tryz.func4.symm.trans hfn)).symm
 refine ⟨looksT, fun j t ht => ?_⟩
 rw [Tryz.params4] at ht
 have hm : t ∈ [9, 9, 31] := by simpa using Array.mem_of_getElem? ht
 have hall : ([9, 9, 31].all fun u => !Tryz.prog.wantsStandIn u) = true := by kernel_rfl
 exact (show Tryz.prog.wantsStandIn t = false by simpa using List.all_eq_true.1 hall t hm)
/-- The statement. -/
theorem proved : Rows.RuleLayoutCardSaid :=
 Claim7.holds_tied_plain_at .later [] _ _ _ _ said (fun _ h => by cases h) (by kernel_rfl) (fun _ h => by cases h) ruleLayout_row_tie rfl ⟨rfl, rfl⟩ (by kernel_rfl) rfl plain (by kernel_rfl)
end Go.Proofs.YtfeccolljfkejaaGreatDoor.ruleLayout
