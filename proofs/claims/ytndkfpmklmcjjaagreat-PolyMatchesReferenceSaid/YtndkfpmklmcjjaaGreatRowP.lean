/- Opening a statement's arguments: places, slices of places, boxes. -/
import Derived.Test.YtndkfpmklmcjjaaGreatRows
import Derived.Test.YtndkfpmklmcjjaaGreatPla
import Derived.Test.YtndkfpmklmcjjaaGreatPov
import Derived.ProofKit
import Derived.OpenShut
import Derived.SizedLaws
import Derived.Deep.Slices
import Derived.Deep.Fields
import Derived.ChangeSame
set_option linter.unusedSimpArgs false
set_option linter.unusedVariables false
set_option maxRecDepth 100000
namespace Go.Proofs.YtndkfpmklmcjjaaGreat
open Go.RowKit Go.Sort Go.ChangeShapes Go.WideShapes Go.ChangeAt Go.Deep
theorem own : ownKnob Tryz.prog.godebug = none := by kernel_rfl
theorem laidOut : laidOutB Tryz.prog = true := by kernel_rfl
theorem cellsInt : Tryz.prog.cellsOf 3 = 1 := by kernel_rfl
theorem cellsPt : Tryz.prog.cellsOf 24 = 2 := by kernel_rfl
theorem bytesPt : Tryz.prog.bytesOf 24 = 16 := by kernel_rfl
def In64 (a : Int) : Prop := -9223372036854775808 ≤ a ∧ a ≤ 9223372036854775807
theorem in64_of {a : Int} (h : (Lit.int .i64 a).wf = true) : In64 a := by
 have h1 : IntKind.i64.min = -9223372036854775808 := rfl
 have h2 : IntKind.i64.max = 9223372036854775807 := rfl
 simp only [Lit.wf, Bool.and_eq_true, decide_eq_true_eq] at h
 unfold In64
 omega
section
variable {H : Type} {enc : TypeId × Value → H} {w : World} {base : Nat} {spare : Nat → Bool} {held : Bool}
theorem pt_cells {fuel : Nat} {cs : List Value} {x : DataW H × List MemPlace} (h : DataW.trod enc Tryz.prog w base spare held fuel 24 cs = some x) : ∃ a b : Int, cs = [.int .i64 a, .int .i64 b] ∧ In64 a ∧ In64 b := by
 obtain ⟨xs, n, _, _, hl, hlen, hf⟩ := DataW.trod_struct Tryz.underlying24 h
 rw [cellsPt] at hl
 match cs, hl with
 | [u, v], _ =>
  have g0 : DataW.trod enc Tryz.prog w base spare held n 3 (([u, v].drop 0).take (Tryz.prog.cellsOf 3)) = xs[0]? := hf 0 _ rfl
  have g1 : DataW.trod enc Tryz.prog w base spare held n 3 (([u, v].drop 1).take (Tryz.prog.cellsOf 3)) = xs[1]? := hf 1 _ rfl
  have l0 : 0 < xs.length := by rw [hlen]; decide
  have l1 : 1 < xs.length := by rw [hlen]; decide
  rw [List.getElem?_eq_getElem l0] at g0
  rw [List.getElem?_eq_getElem l1] at g1
  rw [cellsInt] at g0 g1
  obtain ⟨a, ha, _, wa⟩ := DataW.trod_int Tryz.underlying3 g0
  obtain ⟨b, hb, _, wb⟩ := DataW.trod_int Tryz.underlying3 g1
  simp at ha hb
  exact ⟨a, b, by rw [ha, hb], in64_of wa, in64_of wb⟩
theorem open_pt {r : Reach} {b0 : Nat} {v : Value} {d : DataW H} {p : List MemPlace} (hv : Value.okWide Tryz.prog w r b0 24 v) (h : DataW.Trod enc Tryz.prog w base spare held 24 v d p) :
  ∃ a b : Int, v = pt a b ∧ In64 a ∧ In64 b := by
 obtain ⟨cs, rfl, _⟩ := okWide_struct Tryz.underlying24 hv
 obtain ⟨fuel, hf⟩ := h
 obtain ⟨a, b, hc, wa, wb⟩ := pt_cells hf
 refine ⟨a, b, ?_, wa, wb⟩
 obtain ⟨l⟩ := cs
 simp [Value.cells] at hc
 rw [hc]
theorem cellsSpan : Tryz.prog.cellsOf 26 = 2 := by kernel_rfl
theorem cellsBox : Tryz.prog.cellsOf 28 = 4 := by kernel_rfl
theorem span_cells {fuel : Nat} {cs : List Value} {x : DataW H × List MemPlace} (h : DataW.trod enc Tryz.prog w base spare held fuel 26 cs = some x) : ∃ a b : Int, cs = [.int .i64 a, .int .i64 b] := by
 obtain ⟨xs, n, _, _, hl, hlen, hf⟩ := DataW.trod_struct Tryz.underlying26 h
 rw [cellsSpan] at hl
 match cs, hl with
 | [u, v], _ =>
  have g0 : DataW.trod enc Tryz.prog w base spare held n 3 (([u, v].drop 0).take (Tryz.prog.cellsOf 3)) = xs[0]? := hf 0 _ rfl
  have g1 : DataW.trod enc Tryz.prog w base spare held n 3 (([u, v].drop 1).take (Tryz.prog.cellsOf 3)) = xs[1]? := hf 1 _ rfl
  have l0 : 0 < xs.length := by rw [hlen]; decide
  have l1 : 1 < xs.length := by rw [hlen]; decide
  rw [List.getElem?_eq_getElem l0] at g0
  rw [List.getElem?_eq_getElem l1] at g1
  rw [cellsInt] at g0 g1
  obtain ⟨a, ha, _, _⟩ := DataW.trod_int Tryz.underlying3 g0
  obtain ⟨b, hb, _, _⟩ := DataW.trod_int Tryz.underlying3 g1
  simp at ha hb
  exact ⟨a, b, by rw [ha, hb]⟩
theorem box_cells {fuel : Nat} {cs : List Value} {x : DataW H × List MemPlace} (h : DataW.trod enc Tryz.prog w base spare held fuel 28 cs = some x) : ∃ a b c d : Int, cs = [.int .i64 a, .int .i64 b, .int .i64 c, .int .i64 d] := by
 obtain ⟨xs, n, _, _, hl, hlen, hf⟩ := DataW.trod_struct Tryz.underlying28 h
 rw [cellsBox] at hl
 match cs, hl with
 | [v0, v1, v2, v3], _ =>
  have g0 : DataW.trod enc Tryz.prog w base spare held n 26 (([v0, v1, v2, v3].drop 0).take (Tryz.prog.cellsOf 26)) = xs[0]? := hf 0 _ rfl
  have g1 : DataW.trod enc Tryz.prog w base spare held n 26 (([v0, v1, v2, v3].drop 2).take (Tryz.prog.cellsOf 26)) = xs[1]? := hf 1 _ rfl
  have l0 : 0 < xs.length := by rw [hlen]; decide
  have l1 : 1 < xs.length := by rw [hlen]; decide
  rw [List.getElem?_eq_getElem l0] at g0
  rw [List.getElem?_eq_getElem l1] at g1
  rw [cellsSpan] at g0 g1
  obtain ⟨a, b, h1⟩ := span_cells g0
  obtain ⟨c, d, h2⟩ := span_cells g1
  simp at h1 h2
  exact ⟨a, b, c, d, by rw [h1.1, h1.2, h2.1, h2.2]⟩
theorem open_box {r : Reach} {b0 : Nat} {v : Value} {d : DataW H} {p : List MemPlace} (hv : Value.okWide Tryz.prog w r b0 28 v) (h : DataW.Trod enc Tryz.prog w base spare held 28 v d p) :
  ∃ s : B4, v = bxv s := by
 obtain ⟨cs, rfl, _⟩ := okWide_struct Tryz.underlying28 hv
 obtain ⟨fuel, hf⟩ := h
 obtain ⟨a, b, c, d, hc⟩ := box_cells hf
 refine ⟨((a, b), (c, d)), ?_⟩
 obtain ⟨l⟩ := cs
 simp [Value.cells] at hc
 rw [hc]
theorem open_pts {r : Reach} {b0 : Nat} {v : Value} {d : DataW H} {p : List MemPlace} (hv : Value.okWide Tryz.prog w r b0 22 v) (h : DataW.Trod enc Tryz.prog w base (fun _ => true) held 22 v d p) (hlt : ∀ x ∈ p, x.block < w.heap.size)
  (hsz : ∀ es sp, d = .slice es sp → (es.length + sp.length) * 16 ≤ reachBytes) :
  ∃ (ss : List Pt) (A : Option Addr) (c : Nat), v = .slice A ss.length c ∧ ss.length ≤ c ∧ ss.length ≤ 100000000000000 ∧ Rd w w.heap.size 2 A (ss.map encD) := by
 obtain ⟨a0, len, cap, rfl⟩ := okWide_slice Tryz.underlying22 hv
 obtain ⟨fuel, hf⟩ := h
 rcases open_slice Tryz.underlying22 hf with ⟨h1, h2⟩ | ⟨a, len', cap', m, n, D, Pl, h1, _, hl, hm, hmm, hx, hi⟩
 ·simp [Value.cells] at h1
  obtain ⟨rfl, rfl, rfl⟩ := h1
  exact ⟨[], none, 0, rfl, Nat.le_refl _, by simp, .inl rfl⟩
 ·simp [Value.cells] at h1
  obtain ⟨rfl, rfl, rfl⟩ := h1
  simp only [Prod.mk.injEq] at hx
  simp only [if_true] at hmm
  obtain rfl := hmm
  have hreach := hsz _ _ hx.1
  simp only [List.length_map, List.length_range, reachBytes] at hreach
  rw [cellsPt] at hi hx
  have hsec : ∀ i, i < len → ∃ s : Pt, ∀ j u, (encD s)[j]? = some u → w.cell? (a.add (i * 2 + j)) = some u := by
   intro i hil
   obtain ⟨cs', hc, ht⟩ := hi i (by omega)
   obtain ⟨x1, x2, rfl, _, _⟩ := pt_cells ht
   refine ⟨(x1, x2), fun j u hu => ?_⟩
   obtain ⟨_, _, hat⟩ := World.cells?_some hc
   have hj : j < 2 := by rw [show (2 : Nat) = (encD (x1, x2)).length from rfl]; exact (List.getElem?_eq_some_iff.1 hu).1
   have := hat j hj
   rw [show ([Value.int .i64 x1, .int .i64 x2] : List Value) = encD (x1, x2) from rfl, hu, Go.Deep.add_add] at this
   exact this
  obtain ⟨f, hf2⟩ : ∃ f : Nat → Pt, ∀ i, i < len → ∀ j u, (encD (f i))[j]? = some u → w.cell? (a.add (i * 2 + j)) = some u := by
   refine ⟨fun i => if h : i < len then (hsec i h).choose else default, fun i hil => ?_⟩
   simp only [dif_pos hil]
   exact (hsec i hil).choose_spec
  refine ⟨(List.range len).map f, some a, m, by simp, by simpa using hl, by simp; omega, ?_⟩
  rcases Nat.eq_zero_or_pos len with h0 | h0
  ·subst h0
   exact .inl rfl
  ·have hc0 := hf2 0 h0 0 _ rfl
   obtain ⟨b, off, spot⟩ := a
   have hspot : spot = none := by simpa [Addr.add] using World.cell?_spot hc0
   subst hspot
   refine .inr ⟨b, off, rfl, hlt (.cell b off) ?_, fun k x hx j u hu => ?_⟩
   ·rw [hx.2]
    exact List.mem_append_left _ (MemPlace.mem_row.2 ⟨0, by omega, by simp⟩)
   ·rw [List.map_map, List.getElem?_map] at hx
    obtain ⟨i, hik, rfl⟩ := Option.map_eq_some_iff.1 hx
    have hkl : k < len := by have := (List.getElem?_eq_some_iff.1 hik).1; simpa using this
    rw [List.getElem?_range hkl] at hik
    injection hik with hik
    subst hik
    have := hf2 k hkl j u hu
    rw [add_at] at this
    rw [Nat.add_assoc]
    exact this
end
end Go.Proofs.YtndkfpmklmcjjaaGreat
