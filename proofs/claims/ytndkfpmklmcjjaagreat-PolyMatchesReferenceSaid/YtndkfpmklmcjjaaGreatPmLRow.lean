/- The statement PolyMatchesReference: for every input the law returns true, and each argument reads behind the call as it read before. No condition. -/
import Derived.Test.YtndkfpmklmcjjaaGreatRowP
import Derived.Test.YtndkfpmklmcjjaaGreatPmL
set_option linter.unusedSimpArgs false
set_option linter.unusedVariables false
set_option maxRecDepth 100000
namespace Go.Proofs.YtndkfpmklmcjjaaGreat.polyMatchesReference
open Go.RowKit Go.Sort Go.ChangeShapes Go.WideShapes Go.ChangeAt Go.Deep
theorem lifted (os : Os) (started : os.Started) (H : Type) (enc : TypeId × Value → H) :
  ReturnsInHanded {} Tryz.checked os 3 .any (Rows.polyMatchesReferenceSpec.pre6 enc Tryz.prog Tryz.f3 Rows.polyMatchesReferenceRow.domain false) (Rows.polyMatchesReferenceSpec.post enc Tryz.prog Tryz.f3 false true false false) := by
 refine returnsInHanded_of_change_sized (C := Tryz.checked) own started (by kernel_rfl) Tryz.func3
  (ChangeSpec.witness6 (enc := enc) (C := Tryz.checked) false ⟨#[], #[.slice none 0 0, .slice none 0 0, .agg #[.int .i64 0, .int .i64 0], .int .i64 0, .slice none 0 0, .agg #[.int .i64 0, .int .i64 0, .int .i64 0, .int .i64 0]], []⟩ 8 (by kernel_rfl) (by kernel_rfl) (by kernel_rfl) (by kernel_rfl)) ?_
 intro W base args ds gs before hval0 hW _ hsz0 _
 have hsz : (DataW.weightsEach Tryz.prog (Tryz.f3.params.toList ++ Rows.polyMatchesReferenceSpec.plain.varTypes Tryz.prog) (ds ++ gs)).all (· ≤ reachBytes) = true := hsz0
 clear hsz0
 have hval : ∀ (j : Nat) t v, Tryz.f3.params[j]? = some t → args[j]? = some v → Value.okWide Tryz.prog W .any base t v := hval0
 have hW' := hW
 obtain ⟨p, q, hA0, hV, rfl, _, _⟩ := hW
 have hA : DataW.TrodAll enc Tryz.prog W 0 (fun _ => true) true Tryz.f3.params.toList args.toList ds p := hA0
 rw [Tryz.params3] at hA hval hsz
 obtain ⟨v0, vs0, d0, ds0, p0, q0, hargs, rfl, rfl, h0, r0⟩ := trodAll_cons hA
 obtain ⟨v1, vs1, d1, ds1, p1, q1, rfl, rfl, rfl, h1, r1⟩ := trodAll_cons r0
 obtain ⟨v2, vs2, d2, ds2, p2, q2, rfl, rfl, rfl, h2, r2⟩ := trodAll_cons r1
 obtain ⟨v3, vs3, d3, ds3, p3, q3, rfl, rfl, rfl, h3, r3⟩ := trodAll_cons r2
 obtain ⟨v4, vs4, d4, ds4, p4, q4, rfl, rfl, rfl, h4, r4⟩ := trodAll_cons r3
 obtain ⟨v5, vs5, d5, ds5, p5, q5, rfl, rfl, rfl, h5, r5⟩ := trodAll_cons r4
 obtain ⟨rfl, rfl, rfl⟩ := trodAll_nil r5
 obtain rfl : args = #[v0, v1, v2, v3, v4, v5] := by cases args; simp_all
 obtain ⟨rfl, rfl⟩ := trodVars_none hV
 clear hA0 hval0
 simp only [List.append_nil] at hW'
 have hlt0 : ∀ x ∈ p0, x.block < W.heap.size := fun x hx => by simpa using hW'.lt x (by simp [hx])
 have k0 := h0
 obtain ⟨s0, A0, c0, rfl, hl0, hc0, hr0⟩ := open_pts (hval 0 22 v0 rfl rfl) k0 hlt0 (fun es sp e => by have := sized_slice hsz (j := 0) (t := 22) (e := 24) rfl (by rw [← e]; rfl) Tryz.underlying22; rwa [bytesPt] at this)
 have hlt1 : ∀ x ∈ p1, x.block < W.heap.size := fun x hx => by simpa using hW'.lt x (by simp [hx])
 have k1 := h1
 obtain ⟨s1, A1, c1, rfl, hl1, hc1, hr1⟩ := open_pts (hval 1 22 v1 rfl rfl) k1 hlt1 (fun es sp e => by have := sized_slice hsz (j := 1) (t := 22) (e := 24) rfl (by rw [← e]; rfl) Tryz.underlying22; rwa [bytesPt] at this)
 have hlt2 : ∀ x ∈ p2, x.block < W.heap.size := fun x hx => by simpa using hW'.lt x (by simp [hx])
 have k2 := h2
 obtain ⟨a2, b2, rfl, wa2, wb2⟩ := open_pt (hval 2 24 v2 rfl rfl) k2
 have hlt3 : ∀ x ∈ p3, x.block < W.heap.size := fun x hx => by simpa using hW'.lt x (by simp [hx])
 have k3 := h3
 obtain ⟨a3, rfl, _, _, wa3⟩ := open_int Tryz.underlying3 (hval 3 3 v3 rfl rfl) k3
 have hlt4 : ∀ x ∈ p4, x.block < W.heap.size := fun x hx => by simpa using hW'.lt x (by simp [hx])
 have k4 := h4
 obtain ⟨s4, A4, c4, rfl, hl4, hc4, hr4⟩ := open_pts (hval 4 22 v4 rfl rfl) k4 hlt4 (fun es sp e => by have := sized_slice hsz (j := 4) (t := 22) (e := 24) rfl (by rw [← e]; rfl) Tryz.underlying22; rwa [bytesPt] at this)
 have hlt5 : ∀ x ∈ p5, x.block < W.heap.size := fun x hx => by simpa using hW'.lt x (by simp [hx])
 have k5 := h5
 obtain ⟨s5, rfl⟩ := open_box (hval 5 28 v5 rfl rfl) k5
 have hargs : ∀ (W' : World), Below W.heap.size W W' → ∀ t v d p, DataW.Trod enc Tryz.prog W 0 (fun _ => true) true t v d p → (∀ x ∈ p, x.block < W.heap.size) → Tryz.prog.readableRec t = true → t < Tryz.prog.types.size → DataW.Trod enc Tryz.prog W' 0 (fun b => decide (b < W.heap.size)) true t v d p :=
  fun W' hn t v d p h hlt hr ht => Below.trod laidOut hr ht h hn hlt
 refine (polyMatches_row s0 A0 c0 s1 A1 c1 a2 b2 a3 s4 A4 c4 s5 W hr0 hc0 hr1 hc1   hr4 hc4 ).mono fun e W' ⟨he, hg⟩ => ?_
 subst he
 exact ⟨_, rfl, _, _, _, [], _, [], hW', trodAll_cons_mk (shut_bool Tryz.underlying4 _) trodAll_mk0, (trodAll_cons_mk (hargs W' hg.below 22 _ d0 p0 h0 hlt0 (by kernel_rfl) (of_decide_eq_true (by kernel_rfl))) (trodAll_cons_mk (hargs W' hg.below 22 _ d1 p1 h1 hlt1 (by kernel_rfl) (of_decide_eq_true (by kernel_rfl))) (trodAll_cons_mk (hargs W' hg.below 24 _ d2 p2 h2 hlt2 (by kernel_rfl) (of_decide_eq_true (by kernel_rfl))) (trodAll_cons_mk (hargs W' hg.below 3 _ d3 p3 h3 hlt3 (by kernel_rfl) (of_decide_eq_true (by kernel_rfl))) (trodAll_cons_mk (hargs W' hg.below 22 _ d4 p4 h4 hlt4 (by kernel_rfl) (of_decide_eq_true (by kernel_rfl))) (trodAll_cons_mk (hargs W' hg.below 28 _ d5 p5 h5 hlt5 (by kernel_rfl) (of_decide_eq_true (by kernel_rfl))) trodAll_mk0)))))), rfl, hg.below.frame _, fun h => by cases h⟩
/-- The statement. -/
theorem proved : Rows.PolyMatchesReferenceSaid :=
 OpenClaim.holds_of_wide 3 Tryz.f3 rfl rfl rfl rfl rfl rfl rfl ⟨rfl, rfl, rfl, rfl, rfl⟩ rfl rfl rfl rfl rfl (by kernel_rfl) Tryz.func3 (by kernel_rfl)
  (of_decide_eq_true (by kernel_rfl)) (by unfold Func.isWrapper; first | (rw [if_pos (by decide +kernel)]; kernel_rfl) | (rw [if_neg (by decide +kernel)]; exact ⟨rfl, rfl⟩))
  (fun os started H enc _ => lifted os started H enc)
end Go.Proofs.YtndkfpmklmcjjaaGreat.polyMatchesReference
