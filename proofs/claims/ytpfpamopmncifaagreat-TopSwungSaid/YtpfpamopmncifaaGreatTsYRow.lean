/- The statement TopSwung: for every input the law returns true, and each argument reads behind the call as it read before. No condition. -/
import Derived.Test.YtpfpamopmncifaaGreatRowS
import Derived.Test.YtpfpamopmncifaaGreatTsY
set_option linter.unusedSimpArgs false
set_option linter.unusedVariables false
set_option maxRecDepth 100000
namespace Go.Proofs.YtpfpamopmncifaaGreat.topSwung
open Go.RowKit Go.Sort Go.ChangeShapes Go.WideShapes Go.ChangeAt Go.Deep
theorem lifted (os : Os) (started : os.Started) (H : Type) (enc : TypeId × Value → H) :
  ReturnsInHanded {} Tryz.checked os 3 .any (Rows.topSwungSpec.pre6 enc Tryz.prog Tryz.f3 Rows.topSwungRow.domain false) (Rows.topSwungSpec.post enc Tryz.prog Tryz.f3 false true false false) := by
 refine returnsInHanded_of_change_sized (C := Tryz.checked) own started (by kernel_rfl) Tryz.func3
  (ChangeSpec.witness6 (enc := enc) (C := Tryz.checked) false ⟨#[], #[.agg #[.int .i64 0, .int .i64 0, .int .i64 0, .int .i64 0, .int .i64 0], .agg #[.int .i64 0, .int .i64 0, .slice none 0 0], .int .i64 0, .int .i64 0, .int .i64 0, .int .i64 0, .agg #[.int .i64 0, .int .i64 0], .agg #[.int .i64 0, .int .i64 0, .int .i64 0, .int .i64 0, .int .i64 0, .int .i64 0, .int .i64 0], .agg #[.int .i64 0, .slice none 0 0], .agg #[.int .i64 0, .slice none 0 0], .int .i64 0, .agg #[.int .i64 0, .int .i64 0]], []⟩ 8 (by kernel_rfl) (by kernel_rfl) (by kernel_rfl) (by kernel_rfl)) ?_
 intro W base args ds gs before hval0 hW _ hsz0 _
 have hsz : (DataW.weightsEach Tryz.prog (Tryz.f3.params.toList ++ Rows.topSwungSpec.plain.varTypes Tryz.prog) (ds ++ gs)).all (· ≤ reachBytes) = true := hsz0
 clear hsz0
 have hval : ∀ (j : Nat) t v, Tryz.f3.params[j]? = some t → args[j]? = some v → Value.okWide Tryz.prog W .any base t v := hval0
 have hW' := hW
 obtain ⟨p, q, hA0, hV, rfl, _, _⟩ := hW
 have hA : DataW.TrodAll enc Tryz.prog W 0 (fun _ => true) true Tryz.f3.params.toList args.toList ds p := hA0
 rw [Tryz.params3] at hA hval hsz
 obtain ⟨v0, vs0, d0, ds0, p0, q0, hargs, rfl, rfl, h0, r0⟩ := trodAll_cons hA
 obtain ⟨v1, vs1, d1, ds1, p1, q1, rfl, rfl, rfl, h1, r1⟩ := trodAll_cons r0
 obtain ⟨v2, vs2, d2, ds2, p2, q2, rfl, rfl, rfl, h2, r2⟩ := trodAll_cons r1
 obtain ⟨v3, vs3, d3, ds3, p3, q3, rfl, rfl, rfl, h3, r3⟩ := trodAll_cons r2
 obtain ⟨v4, vs4, d4, ds4, p4, q4, rfl, rfl, rfl, h4, r4⟩ := trodAll_cons r3
 obtain ⟨v5, vs5, d5, ds5, p5, q5, rfl, rfl, rfl, h5, r5⟩ := trodAll_cons r4
 obtain ⟨v6, vs6, d6, ds6, p6, q6, rfl, rfl, rfl, h6, r6⟩ := trodAll_cons r5
 obtain ⟨v7, vs7, d7, ds7, p7, q7, rfl, rfl, rfl, h7, r7⟩ := trodAll_cons r6
 obtain ⟨v8, vs8, d8, ds8, p8, q8, rfl, rfl, rfl, h8, r8⟩ := trodAll_cons r7
 obtain ⟨v9, vs9, d9, ds9, p9, q9, rfl, rfl, rfl, h9, r9⟩ := trodAll_cons r8
 obtain ⟨v10, vs10, d10, ds10, p10, q10, rfl, rfl, rfl, h10, r10⟩ := trodAll_cons r9
 obtain ⟨v11, vs11, d11, ds11, p11, q11, rfl, rfl, rfl, h11, r11⟩ := trodAll_cons r10
 obtain ⟨rfl, rfl, rfl⟩ := trodAll_nil r11
 obtain rfl : args = #[v0, v1, v2, v3, v4, v5, v6, v7, v8, v9, v10, v11] := by cases args; simp_all
 obtain ⟨rfl, rfl⟩ := trodVars_none hV
 clear hA0 hval0
 simp only [List.append_nil] at hW'
 have hlt0 : ∀ x ∈ p0, x.block < W.heap.size := fun x hx => by simpa using hW'.lt x (by simp [hx])
 have k0 := h0
 obtain ⟨x0, y0, lo0, hi0, ch0, rfl, _⟩ := open_mo (hval 0 27 v0 rfl rfl) k0 hlt0 (sized_any hsz (j := 0) rfl rfl)
 have hlt1 : ∀ x ∈ p1, x.block < W.heap.size := fun x hx => by simpa using hW'.lt x (by simp [hx])
 have k1 := h1
 obtain ⟨st1, sp1, s1, A1, c1, rfl, _, hc1, hr1⟩ := open_td (hval 1 30 v1 rfl rfl) k1 hlt1 (sized_any hsz (j := 1) rfl rfl)
 have hlt2 : ∀ x ∈ p2, x.block < W.heap.size := fun x hx => by simpa using hW'.lt x (by simp [hx])
 have k2 := h2
 obtain ⟨a2, rfl, _, _, wa2⟩ := open_int Tryz.underlying3 (hval 2 3 v2 rfl rfl) k2
 have hlt3 : ∀ x ∈ p3, x.block < W.heap.size := fun x hx => by simpa using hW'.lt x (by simp [hx])
 have k3 := h3
 obtain ⟨a3, rfl, _, _, wa3⟩ := open_int Tryz.underlying3 (hval 3 3 v3 rfl rfl) k3
 have hlt4 : ∀ x ∈ p4, x.block < W.heap.size := fun x hx => by simpa using hW'.lt x (by simp [hx])
 have k4 := h4
 obtain ⟨a4, rfl, _, _, wa4⟩ := open_int Tryz.underlying3 (hval 4 3 v4 rfl rfl) k4
 have hlt5 : ∀ x ∈ p5, x.block < W.heap.size := fun x hx => by simpa using hW'.lt x (by simp [hx])
 have k5 := h5
 obtain ⟨a5, rfl, _, _, wa5⟩ := open_int Tryz.underlying3 (hval 5 3 v5 rfl rfl) k5
 have hlt6 : ∀ x ∈ p6, x.block < W.heap.size := fun x hx => by simpa using hW'.lt x (by simp [hx])
 have k6 := h6
 obtain ⟨a6, b6, rfl, _⟩ := open_pt (hval 6 23 v6 rfl rfl) k6 hlt6 (sized_any hsz (j := 6) rfl rfl)
 have hlt7 : ∀ x ∈ p7, x.block < W.heap.size := fun x hx => by simpa using hW'.lt x (by simp [hx])
 have k7 := h7
 obtain ⟨m7a, m7b, m7c, m7d, m7e, m7f, m7r, rfl, _⟩ := open_dm (hval 7 32 v7 rfl rfl) k7 hlt7 (sized_any hsz (j := 7) rfl rfl)
 have hlt8 : ∀ x ∈ p8, x.block < W.heap.size := fun x hx => by simpa using hW'.lt x (by simp [hx])
 have k8 := h8
 obtain ⟨o8, s8, A8, c8, rfl, _, hc8, hr8⟩ := open_bk (hval 8 35 v8 rfl rfl) k8 hlt8 (sized_any hsz (j := 8) rfl rfl)
 have hlt9 : ∀ x ∈ p9, x.block < W.heap.size := fun x hx => by simpa using hW'.lt x (by simp [hx])
 have k9 := h9
 obtain ⟨o9, s9, A9, c9, rfl, _, hc9, hr9⟩ := open_bk (hval 9 35 v9 rfl rfl) k9 hlt9 (sized_any hsz (j := 9) rfl rfl)
 have hlt10 : ∀ x ∈ p10, x.block < W.heap.size := fun x hx => by simpa using hW'.lt x (by simp [hx])
 have k10 := h10
 obtain ⟨a10, rfl, _, _, wa10⟩ := open_int Tryz.underlying3 (hval 10 3 v10 rfl rfl) k10
 have hlt11 : ∀ x ∈ p11, x.block < W.heap.size := fun x hx => by simpa using hW'.lt x (by simp [hx])
 have k11 := h11
 obtain ⟨a11, b11, rfl, _⟩ := open_pt (hval 11 23 v11 rfl rfl) k11 hlt11 (sized_any hsz (j := 11) rfl rfl)
 have hargs : ∀ (W' : World), Below W.heap.size W W' → ∀ t v d p, DataW.Trod enc Tryz.prog W 0 (fun _ => true) true t v d p → (∀ x ∈ p, x.block < W.heap.size) → Tryz.prog.readableRec t = true → t < Tryz.prog.types.size → DataW.Trod enc Tryz.prog W' 0 (fun b => decide (b < W.heap.size)) true t v d p :=
  fun W' hn t v d p h hlt hr ht => Below.trod laidOut hr ht h hn hlt
 refine (topSwung_v x0 y0 lo0 hi0 ch0 st1 sp1 s1 A1 c1 a2 a3 a4 a5 (a6, b6) ⟨m7a, m7b, m7c, m7d, m7e, m7f, m7r⟩ o8 s8 A8 c8 o9 s9 A9 c9 a10 (a11, b11) W  hr1 hc1       hr8 hc8 hr9 hc9  ).mono fun e W' ⟨he, hg⟩ => ?_
 subst he
 exact ⟨_, rfl, _, _, _, [], _, [], hW', trodAll_cons_mk (shut_bool Tryz.underlying4 _) trodAll_mk0, (trodAll_cons_mk (hargs W' hg.below 27 _ d0 p0 h0 hlt0 (by kernel_rfl) (of_decide_eq_true (by kernel_rfl))) (trodAll_cons_mk (hargs W' hg.below 30 _ d1 p1 h1 hlt1 (by kernel_rfl) (of_decide_eq_true (by kernel_rfl))) (trodAll_cons_mk (hargs W' hg.below 3 _ d2 p2 h2 hlt2 (by kernel_rfl) (of_decide_eq_true (by kernel_rfl))) (trodAll_cons_mk (hargs W' hg.below 3 _ d3 p3 h3 hlt3 (by kernel_rfl) (of_decide_eq_true (by kernel_rfl))) (trodAll_cons_mk (hargs W' hg.below 3 _ d4 p4 h4 hlt4 (by kernel_rfl) (of_decide_eq_true (by kernel_rfl))) (trodAll_cons_mk (hargs W' hg.below 3 _ d5 p5 h5 hlt5 (by kernel_rfl) (of_decide_eq_true (by kernel_rfl))) (trodAll_cons_mk (hargs W' hg.below 23 _ d6 p6 h6 hlt6 (by kernel_rfl) (of_decide_eq_true (by kernel_rfl))) (trodAll_cons_mk (hargs W' hg.below 32 _ d7 p7 h7 hlt7 (by kernel_rfl) (of_decide_eq_true (by kernel_rfl))) (trodAll_cons_mk (hargs W' hg.below 35 _ d8 p8 h8 hlt8 (by kernel_rfl) (of_decide_eq_true (by kernel_rfl))) (trodAll_cons_mk (hargs W' hg.below 35 _ d9 p9 h9 hlt9 (by kernel_rfl) (of_decide_eq_true (by kernel_rfl))) (trodAll_cons_mk (hargs W' hg.below 3 _ d10 p10 h10 hlt10 (by kernel_rfl) (of_decide_eq_true (by kernel_rfl))) (trodAll_cons_mk (hargs W' hg.below 23 _ d11 p11 h11 hlt11 (by kernel_rfl) (of_decide_eq_true (by kernel_rfl))) trodAll_mk0)))))))))))), rfl, hg.below.frame _, fun h => by cases h⟩
/-- The statement. -/
theorem proved : Rows.TopSwungSaid :=
 OpenClaim.holds_of_wide 3 Tryz.f3 rfl rfl rfl rfl rfl rfl rfl ⟨rfl, rfl, rfl, rfl, rfl⟩ rfl rfl rfl rfl rfl (by kernel_rfl) Tryz.func3 (by kernel_rfl)
  (of_decide_eq_true (by kernel_rfl)) (by unfold Func.isWrapper; first | (rw [if_pos (by decide +kernel)]; kernel_rfl) | (rw [if_neg (by decide +kernel)]; exact ⟨rfl, rfl⟩))
  (fun os started H enc _ => lifted os started H enc)
end Go.Proofs.YtpfpamopmncifaaGreat.topSwung
