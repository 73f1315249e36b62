/- Opening a statement's arguments: moorings, tables of heights, datums, books. -/
import Derived.Test.YtpfpamopmncifaaGreatRowB
import Derived.Test.YtpfpamopmncifaaGreatTsV
import Derived.Test.YtpfpamopmncifaaGreatTsF
set_option linter.unusedSimpArgs false
set_option linter.unusedVariables false
set_option maxRecDepth 100000
namespace Go.Proofs.YtpfpamopmncifaaGreat
open Go.RowKit Go.Sort Go.ChangeShapes Go.WideShapes Go.ChangeAt Go.Deep
theorem cells23 : Tryz.prog.cellsOf 23 = 2 := by kernel_rfl
theorem pt_cells {H : Type} {enc : TypeId × Value → H} {w : World} {base : Nat} {held : Bool} {fuel : Nat} {cs : List Value} {x : DataW H × List MemPlace} (h : DataW.trod enc Tryz.prog w base (fun _ => true) held fuel 23 cs = some x) (hlt : ∀ y ∈ x.2, y.block < w.heap.size) (hw : ∀ y ∈ x.1.weights Tryz.prog 23, y ≤ reachBytes) : ∃ (a b : Int), cs = [.int .i64 a, .int .i64 b] ∧ True := by
 obtain ⟨xs, n, _, hx, hl, hlen, hf⟩ := DataW.trod_struct Tryz.underlying23 h
 rw [cells23] at hl
 match cs, hl with
 | [v0, v1], _ =>
  have g0 : DataW.trod enc Tryz.prog w base (fun _ => true) held n 3 (([v0, v1].drop 0).take (Tryz.prog.cellsOf 3)) = xs[0]? := hf 0 _ rfl
  have g1 : DataW.trod enc Tryz.prog w base (fun _ => true) held n 3 (([v0, v1].drop 1).take (Tryz.prog.cellsOf 3)) = xs[1]? := hf 1 _ rfl
  have hlN : xs.length = 2 := by rw [hlen]; rfl
  clear hlen hf
  rw [List.getElem?_eq_getElem (by omega)] at g0 g1
  rw [cells3] at g0
  rw [cells3] at g1
  obtain ⟨a0, h0, _, _⟩ := DataW.trod_int Tryz.underlying3 g0
  obtain ⟨a1, h1, _, _⟩ := DataW.trod_int Tryz.underlying3 g1
  simp at h0 h1
  obtain rfl := h0
  obtain rfl := h1
  exact ⟨a0, a1, rfl, trivial⟩
theorem open_pt {H : Type} {enc : TypeId × Value → H} {w : World} {base : Nat} {held : Bool} {r : Reach} {b0 : Nat} {v : Value} {d : DataW H} {p : List MemPlace} (hv : Value.okWide Tryz.prog w r b0 23 v) (h : DataW.Trod enc Tryz.prog w base (fun _ => true) held 23 v d p) (hlt : ∀ x ∈ p, x.block < w.heap.size) (hw : ∀ y ∈ d.weights Tryz.prog 23, y ≤ reachBytes) :
  ∃ (a b : Int), v = .agg #[.int .i64 a, .int .i64 b] ∧ True := by
 obtain ⟨cs, rfl, _⟩ := okWide_struct Tryz.underlying23 hv
 obtain ⟨fuel, hf⟩ := h
 obtain ⟨a, b, hc, hgood⟩ := pt_cells hf hlt hw
 refine ⟨a, b, ?_, hgood⟩
 obtain ⟨l⟩ := cs
 simp [Value.cells] at hc
 rw [hc]
theorem cells25 : Tryz.prog.cellsOf 25 = 2 := by kernel_rfl
theorem sp_cells {H : Type} {enc : TypeId × Value → H} {w : World} {base : Nat} {held : Bool} {fuel : Nat} {cs : List Value} {x : DataW H × List MemPlace} (h : DataW.trod enc Tryz.prog w base (fun _ => true) held fuel 25 cs = some x) (hlt : ∀ y ∈ x.2, y.block < w.heap.size) (hw : ∀ y ∈ x.1.weights Tryz.prog 25, y ≤ reachBytes) : ∃ (a b : Int), cs = [.int .i64 a, .int .i64 b] ∧ True := by
 obtain ⟨xs, n, _, hx, hl, hlen, hf⟩ := DataW.trod_struct Tryz.underlying25 h
 rw [cells25] at hl
 match cs, hl with
 | [v0, v1], _ =>
  have g0 : DataW.trod enc Tryz.prog w base (fun _ => true) held n 3 (([v0, v1].drop 0).take (Tryz.prog.cellsOf 3)) = xs[0]? := hf 0 _ rfl
  have g1 : DataW.trod enc Tryz.prog w base (fun _ => true) held n 3 (([v0, v1].drop 1).take (Tryz.prog.cellsOf 3)) = xs[1]? := hf 1 _ rfl
  have hlN : xs.length = 2 := by rw [hlen]; rfl
  clear hlen hf
  rw [List.getElem?_eq_getElem (by omega)] at g0 g1
  rw [cells3] at g0
  rw [cells3] at g1
  obtain ⟨a0, h0, _, _⟩ := DataW.trod_int Tryz.underlying3 g0
  obtain ⟨a1, h1, _, _⟩ := DataW.trod_int Tryz.underlying3 g1
  simp at h0 h1
  obtain rfl := h0
  obtain rfl := h1
  exact ⟨a0, a1, rfl, trivial⟩
theorem open_sp {H : Type} {enc : TypeId × Value → H} {w : World} {base : Nat} {held : Bool} {r : Reach} {b0 : Nat} {v : Value} {d : DataW H} {p : List MemPlace} (hv : Value.okWide Tryz.prog w r b0 25 v) (h : DataW.Trod enc Tryz.prog w base (fun _ => true) held 25 v d p) (hlt : ∀ x ∈ p, x.block < w.heap.size) (hw : ∀ y ∈ d.weights Tryz.prog 25, y ≤ reachBytes) :
  ∃ (a b : Int), v = .agg #[.int .i64 a, .int .i64 b] ∧ True := by
 obtain ⟨cs, rfl, _⟩ := okWide_struct Tryz.underlying25 hv
 obtain ⟨fuel, hf⟩ := h
 obtain ⟨a, b, hc, hgood⟩ := sp_cells hf hlt hw
 refine ⟨a, b, ?_, hgood⟩
 obtain ⟨l⟩ := cs
 simp [Value.cells] at hc
 rw [hc]
theorem cells27 : Tryz.prog.cellsOf 27 = 5 := by kernel_rfl
theorem mo_cells {H : Type} {enc : TypeId × Value → H} {w : World} {base : Nat} {held : Bool} {fuel : Nat} {cs : List Value} {x : DataW H × List MemPlace} (h : DataW.trod enc Tryz.prog w base (fun _ => true) held fuel 27 cs = some x) (hlt : ∀ y ∈ x.2, y.block < w.heap.size) (hw : ∀ y ∈ x.1.weights Tryz.prog 27, y ≤ reachBytes) : ∃ (x y lo hi ch : Int), cs = [.int .i64 x, .int .i64 y, .int .i64 lo, .int .i64 hi, .int .i64 ch] ∧ True := by
 obtain ⟨xs, n, _, hx, hl, hlen, hf⟩ := DataW.trod_struct Tryz.underlying27 h
 rw [cells27] at hl
 match cs, hl with
 | [v0, v1, v2, v3, v4], _ =>
  have g0 : DataW.trod enc Tryz.prog w base (fun _ => true) held n 23 (([v0, v1, v2, v3, v4].drop 0).take (Tryz.prog.cellsOf 23)) = xs[0]? := hf 0 _ rfl
  have g1 : DataW.trod enc Tryz.prog w base (fun _ => true) held n 25 (([v0, v1, v2, v3, v4].drop 2).take (Tryz.prog.cellsOf 25)) = xs[1]? := hf 1 _ rfl
  have g2 : DataW.trod enc Tryz.prog w base (fun _ => true) held n 3 (([v0, v1, v2, v3, v4].drop 4).take (Tryz.prog.cellsOf 3)) = xs[2]? := hf 2 _ rfl
  have hlN : xs.length = 3 := by rw [hlen]; rfl
  clear hlen hf
  rw [List.getElem?_eq_getElem (by omega)] at g0 g1 g2
  rw [cells23] at g0
  rw [cells25] at g1
  rw [cells3] at g2
  have hpl : ∀ (i : Nat) (hi : i < xs.length), ∀ y ∈ xs[i].2, y.block < w.heap.size := fun i hi y hy => hlt y (by rw [hx]; exact List.mem_flatMap.2 ⟨xs[i], List.getElem_mem hi, hy⟩)
  have hwt : ∀ (i : Nat) (hi : i < xs.length) (t : TypeId), ((Tryz.prog.underlying 27).bind fun d => match d with | .struct fs => (fs.toList.map (·.type))[i]? | _ => none) = some t → ∀ y ∈ xs[i].1.weights Tryz.prog t, y ≤ reachBytes := fun i hi t ht y hy => hw y (by
   rw [hx]
   rw [Tryz.underlying27] at ht
   simp only [DataW.weights, Tryz.underlying27]
   exact DataW.weights_mem_each (j := i) ht (by rw [List.getElem?_map, List.getElem?_eq_getElem hi]; rfl) y hy)
  obtain ⟨a_0, b_0, h0, q0⟩ := pt_cells g0 (hpl 0 _) (hwt 0 _ 23 (by rw [Tryz.underlying27]; rfl))
  obtain ⟨a_1, b_1, h1, q1⟩ := sp_cells g1 (hpl 1 _) (hwt 1 _ 25 (by rw [Tryz.underlying27]; rfl))
  obtain ⟨a2, h2, _, _⟩ := DataW.trod_int Tryz.underlying3 g2
  simp at h0 h1 h2
  obtain ⟨rfl, rfl⟩ := h0
  obtain ⟨rfl, rfl⟩ := h1
  obtain rfl := h2
  exact ⟨a_0, b_0, a_1, b_1, a2, rfl, trivial⟩
theorem open_mo {H : Type} {enc : TypeId × Value → H} {w : World} {base : Nat} {held : Bool} {r : Reach} {b0 : Nat} {v : Value} {d : DataW H} {p : List MemPlace} (hv : Value.okWide Tryz.prog w r b0 27 v) (h : DataW.Trod enc Tryz.prog w base (fun _ => true) held 27 v d p) (hlt : ∀ x ∈ p, x.block < w.heap.size) (hw : ∀ y ∈ d.weights Tryz.prog 27, y ≤ reachBytes) :
  ∃ (x y lo hi ch : Int), v = .agg #[.int .i64 x, .int .i64 y, .int .i64 lo, .int .i64 hi, .int .i64 ch] ∧ True := by
 obtain ⟨cs, rfl, _⟩ := okWide_struct Tryz.underlying27 hv
 obtain ⟨fuel, hf⟩ := h
 obtain ⟨x, y, lo, hi, ch, hc, hgood⟩ := mo_cells hf hlt hw
 refine ⟨x, y, lo, hi, ch, ?_, hgood⟩
 obtain ⟨l⟩ := cs
 simp [Value.cells] at hc
 rw [hc]
theorem cells30 : Tryz.prog.cellsOf 30 = 3 := by kernel_rfl
theorem cells28 : Tryz.prog.cellsOf 28 = 1 := by kernel_rfl
theorem bytes25 : 8 ≤ Tryz.prog.bytesOf 25 := of_decide_eq_true (by kernel_rfl)
theorem td_cells {H : Type} {enc : TypeId × Value → H} {w : World} {base : Nat} {held : Bool} {fuel : Nat} {cs : List Value} {x : DataW H × List MemPlace} (h : DataW.trod enc Tryz.prog w base (fun _ => true) held fuel 30 cs = some x) (hlt : ∀ y ∈ x.2, y.block < w.heap.size) (hw : ∀ y ∈ x.1.weights Tryz.prog 30, y ≤ reachBytes) : ∃ (st sp : Int) (hs : List Pt) (A : Option Addr) (c : Nat), cs = [.int .i64 st, .int .i64 sp, .slice A hs.length c] ∧ hs.length ≤ c ∧ hs.length ≤ 100000000000000 ∧ Rd w w.heap.size 2 A (hs.map encD) := by
 obtain ⟨xs, n, _, hx, hl, hlen, hf⟩ := DataW.trod_struct Tryz.underlying30 h
 rw [cells30] at hl
 match cs, hl with
 | [v0, v1, v2], _ =>
  have g0 : DataW.trod enc Tryz.prog w base (fun _ => true) held n 3 (([v0, v1, v2].drop 0).take (Tryz.prog.cellsOf 3)) = xs[0]? := hf 0 _ rfl
  have g1 : DataW.trod enc Tryz.prog w base (fun _ => true) held n 3 (([v0, v1, v2].drop 1).take (Tryz.prog.cellsOf 3)) = xs[1]? := hf 1 _ rfl
  have g2 : DataW.trod enc Tryz.prog w base (fun _ => true) held n 28 (([v0, v1, v2].drop 2).take (Tryz.prog.cellsOf 28)) = xs[2]? := hf 2 _ rfl
  have hlN : xs.length = 3 := by rw [hlen]; rfl
  clear hlen hf
  rw [List.getElem?_eq_getElem (by omega)] at g0 g1 g2
  rw [cells3] at g0
  rw [cells3] at g1
  rw [cells28] at g2
  have hpl : ∀ (i : Nat) (hi : i < xs.length), ∀ y ∈ xs[i].2, y.block < w.heap.size := fun i hi y hy => hlt y (by rw [hx]; exact List.mem_flatMap.2 ⟨xs[i], List.getElem_mem hi, hy⟩)
  have hwt : ∀ (i : Nat) (hi : i < xs.length) (t : TypeId), ((Tryz.prog.underlying 30).bind fun d => match d with | .struct fs => (fs.toList.map (·.type))[i]? | _ => none) = some t → ∀ y ∈ xs[i].1.weights Tryz.prog t, y ≤ reachBytes := fun i hi t ht y hy => hw y (by
   rw [hx]
   rw [Tryz.underlying30] at ht
   simp only [DataW.weights, Tryz.underlying30]
   exact DataW.weights_mem_each (j := i) ht (by rw [List.getElem?_map, List.getElem?_eq_getElem hi]; rfl) y hy)
  obtain ⟨a0, h0, _, _⟩ := DataW.trod_int Tryz.underlying3 g0
  obtain ⟨a1, h1, _, _⟩ := DataW.trod_int Tryz.underlying3 g1
  obtain ⟨ss2, A2, c2, h2, hc2, hb2, hr2, hgd2⟩ := trod_list Tryz.underlying28 encD 2 cells25 (by omega) encD_len (fun _ => True) bytes25 (fun fuel cs x h hlt hw => by obtain ⟨a, b, h, _⟩ := sp_cells h hlt hw; exact ⟨(a, b), h, trivial⟩) g2 (hpl 2 _) (hwt 2 _ 28 (by rw [Tryz.underlying30]; rfl))
  simp at h0 h1 h2
  obtain rfl := h0
  obtain rfl := h1
  obtain rfl := h2
  exact ⟨a0, a1, ss2, A2, c2, rfl, hc2, hb2, hr2⟩
theorem open_td {H : Type} {enc : TypeId × Value → H} {w : World} {base : Nat} {held : Bool} {r : Reach} {b0 : Nat} {v : Value} {d : DataW H} {p : List MemPlace} (hv : Value.okWide Tryz.prog w r b0 30 v) (h : DataW.Trod enc Tryz.prog w base (fun _ => true) held 30 v d p) (hlt : ∀ x ∈ p, x.block < w.heap.size) (hw : ∀ y ∈ d.weights Tryz.prog 30, y ≤ reachBytes) :
  ∃ (st sp : Int) (hs : List Pt) (A : Option Addr) (c : Nat), v = .agg #[.int .i64 st, .int .i64 sp, .slice A hs.length c] ∧ hs.length ≤ c ∧ hs.length ≤ 100000000000000 ∧ Rd w w.heap.size 2 A (hs.map encD) := by
 obtain ⟨cs, rfl, _⟩ := okWide_struct Tryz.underlying30 hv
 obtain ⟨fuel, hf⟩ := h
 obtain ⟨st, sp, hs, A, c, hc, hgood⟩ := td_cells hf hlt hw
 refine ⟨st, sp, hs, A, c, ?_, hgood⟩
 obtain ⟨l⟩ := cs
 simp [Value.cells] at hc
 rw [hc]
theorem cells32 : Tryz.prog.cellsOf 32 = 7 := by kernel_rfl
theorem dm_cells {H : Type} {enc : TypeId × Value → H} {w : World} {base : Nat} {held : Bool} {fuel : Nat} {cs : List Value} {x : DataW H × List MemPlace} (h : DataW.trod enc Tryz.prog w base (fun _ => true) held fuel 32 cs = some x) (hlt : ∀ y ∈ x.2, y.block < w.heap.size) (hw : ∀ y ∈ x.1.weights Tryz.prog 32, y ≤ reachBytes) : ∃ (a b c d e f r : Int), cs = [.int .i64 a, .int .i64 b, .int .i64 c, .int .i64 d, .int .i64 e, .int .i64 f, .int .i64 r] ∧ True := by
 obtain ⟨xs, n, _, hx, hl, hlen, hf⟩ := DataW.trod_struct Tryz.underlying32 h
 rw [cells32] at hl
 match cs, hl with
 | [v0, v1, v2, v3, v4, v5, v6], _ =>
  have g0 : DataW.trod enc Tryz.prog w base (fun _ => true) held n 3 (([v0, v1, v2, v3, v4, v5, v6].drop 0).take (Tryz.prog.cellsOf 3)) = xs[0]? := hf 0 _ rfl
  have g1 : DataW.trod enc Tryz.prog w base (fun _ => true) held n 3 (([v0, v1, v2, v3, v4, v5, v6].drop 1).take (Tryz.prog.cellsOf 3)) = xs[1]? := hf 1 _ rfl
  have g2 : DataW.trod enc Tryz.prog w base (fun _ => true) held n 3 (([v0, v1, v2, v3, v4, v5, v6].drop 2).take (Tryz.prog.cellsOf 3)) = xs[2]? := hf 2 _ rfl
  have g3 : DataW.trod enc Tryz.prog w base (fun _ => true) held n 3 (([v0, v1, v2, v3, v4, v5, v6].drop 3).take (Tryz.prog.cellsOf 3)) = xs[3]? := hf 3 _ rfl
  have g4 : DataW.trod enc Tryz.prog w base (fun _ => true) held n 3 (([v0, v1, v2, v3, v4, v5, v6].drop 4).take (Tryz.prog.cellsOf 3)) = xs[4]? := hf 4 _ rfl
  have g5 : DataW.trod enc Tryz.prog w base (fun _ => true) held n 3 (([v0, v1, v2, v3, v4, v5, v6].drop 5).take (Tryz.prog.cellsOf 3)) = xs[5]? := hf 5 _ rfl
  have g6 : DataW.trod enc Tryz.prog w base (fun _ => true) held n 3 (([v0, v1, v2, v3, v4, v5, v6].drop 6).take (Tryz.prog.cellsOf 3)) = xs[6]? := hf 6 _ rfl
  have hlN : xs.length = 7 := by rw [hlen]; rfl
  clear hlen hf
  rw [List.getElem?_eq_getElem (by omega)] at g0 g1 g2 g3 g4 g5 g6
  rw [cells3] at g0
  rw [cells3] at g1
  rw [cells3] at g2
  rw [cells3] at g3
  rw [cells3] at g4
  rw [cells3] at g5
  rw [cells3] at g6
  obtain ⟨a0, h0, _, _⟩ := DataW.trod_int Tryz.underlying3 g0
  obtain ⟨a1, h1, _, _⟩ := DataW.trod_int Tryz.underlying3 g1
  obtain ⟨a2, h2, _, _⟩ := DataW.trod_int Tryz.underlying3 g2
  obtain ⟨a3, h3, _, _⟩ := DataW.trod_int Tryz.underlying3 g3
  obtain ⟨a4, h4, _, _⟩ := DataW.trod_int Tryz.underlying3 g4
  obtain ⟨a5, h5, _, _⟩ := DataW.trod_int Tryz.underlying3 g5
  obtain ⟨a6, h6, _, _⟩ := DataW.trod_int Tryz.underlying3 g6
  simp at h0 h1 h2 h3 h4 h5 h6
  obtain rfl := h0
  obtain rfl := h1
  obtain rfl := h2
  obtain rfl := h3
  obtain rfl := h4
  obtain rfl := h5
  obtain rfl := h6
  exact ⟨a0, a1, a2, a3, a4, a5, a6, rfl, trivial⟩
theorem open_dm {H : Type} {enc : TypeId × Value → H} {w : World} {base : Nat} {held : Bool} {r : Reach} {b0 : Nat} {v : Value} {d : DataW H} {p : List MemPlace} (hv : Value.okWide Tryz.prog w r b0 32 v) (h : DataW.Trod enc Tryz.prog w base (fun _ => true) held 32 v d p) (hlt : ∀ x ∈ p, x.block < w.heap.size) (hw : ∀ y ∈ d.weights Tryz.prog 32, y ≤ reachBytes) :
  ∃ (a b c d e f r : Int), v = .agg #[.int .i64 a, .int .i64 b, .int .i64 c, .int .i64 d, .int .i64 e, .int .i64 f, .int .i64 r] ∧ True := by
 obtain ⟨cs, rfl, _⟩ := okWide_struct Tryz.underlying32 hv
 obtain ⟨fuel, hf⟩ := h
 obtain ⟨a, b, c, d, e, f, r, hc, hgood⟩ := dm_cells hf hlt hw
 refine ⟨a, b, c, d, e, f, r, ?_, hgood⟩
 obtain ⟨l⟩ := cs
 simp [Value.cells] at hc
 rw [hc]
theorem cells57 : Tryz.prog.cellsOf 57 = 3 := by kernel_rfl
theorem mk_cells {H : Type} {enc : TypeId × Value → H} {w : World} {base : Nat} {held : Bool} {fuel : Nat} {cs : List Value} {x : DataW H × List MemPlace} (h : DataW.trod enc Tryz.prog w base (fun _ => true) held fuel 57 cs = some x) (hlt : ∀ y ∈ x.2, y.block < w.heap.size) (hw : ∀ y ∈ x.1.weights Tryz.prog 57, y ≤ reachBytes) : ∃ (a b c : Int), cs = [.int .i64 a, .int .i64 b, .int .i64 c] ∧ True := by
 obtain ⟨xs, n, _, hx, hl, hlen, hf⟩ := DataW.trod_struct Tryz.underlying57 h
 rw [cells57] at hl
 match cs, hl with
 | [v0, v1, v2], _ =>
  have g0 : DataW.trod enc Tryz.prog w base (fun _ => true) held n 3 (([v0, v1, v2].drop 0).take (Tryz.prog.cellsOf 3)) = xs[0]? := hf 0 _ rfl
  have g1 : DataW.trod enc Tryz.prog w base (fun _ => true) held n 3 (([v0, v1, v2].drop 1).take (Tryz.prog.cellsOf 3)) = xs[1]? := hf 1 _ rfl
  have g2 : DataW.trod enc Tryz.prog w base (fun _ => true) held n 3 (([v0, v1, v2].drop 2).take (Tryz.prog.cellsOf 3)) = xs[2]? := hf 2 _ rfl
  have hlN : xs.length = 3 := by rw [hlen]; rfl
  clear hlen hf
  rw [List.getElem?_eq_getElem (by omega)] at g0 g1 g2
  rw [cells3] at g0
  rw [cells3] at g1
  rw [cells3] at g2
  obtain ⟨a0, h0, _, _⟩ := DataW.trod_int Tryz.underlying3 g0
  obtain ⟨a1, h1, _, _⟩ := DataW.trod_int Tryz.underlying3 g1
  obtain ⟨a2, h2, _, _⟩ := DataW.trod_int Tryz.underlying3 g2
  simp at h0 h1 h2
  obtain rfl := h0
  obtain rfl := h1
  obtain rfl := h2
  exact ⟨a0, a1, a2, rfl, trivial⟩
theorem open_mk {H : Type} {enc : TypeId × Value → H} {w : World} {base : Nat} {held : Bool} {r : Reach} {b0 : Nat} {v : Value} {d : DataW H} {p : List MemPlace} (hv : Value.okWide Tryz.prog w r b0 57 v) (h : DataW.Trod enc Tryz.prog w base (fun _ => true) held 57 v d p) (hlt : ∀ x ∈ p, x.block < w.heap.size) (hw : ∀ y ∈ d.weights Tryz.prog 57, y ≤ reachBytes) :
  ∃ (a b c : Int), v = .agg #[.int .i64 a, .int .i64 b, .int .i64 c] ∧ True := by
 obtain ⟨cs, rfl, _⟩ := okWide_struct Tryz.underlying57 hv
 obtain ⟨fuel, hf⟩ := h
 obtain ⟨a, b, c, hc, hgood⟩ := mk_cells hf hlt hw
 refine ⟨a, b, c, ?_, hgood⟩
 obtain ⟨l⟩ := cs
 simp [Value.cells] at hc
 rw [hc]
theorem cells35 : Tryz.prog.cellsOf 35 = 2 := by kernel_rfl
theorem cells33 : Tryz.prog.cellsOf 33 = 1 := by kernel_rfl
theorem bytes57 : 8 ≤ Tryz.prog.bytesOf 57 := of_decide_eq_true (by kernel_rfl)
theorem bk_cells {H : Type} {enc : TypeId × Value → H} {w : World} {base : Nat} {held : Bool} {fuel : Nat} {cs : List Value} {x : DataW H × List MemPlace} (h : DataW.trod enc Tryz.prog w base (fun _ => true) held fuel 35 cs = some x) (hlt : ∀ y ∈ x.2, y.block < w.heap.size) (hw : ∀ y ∈ x.1.weights Tryz.prog 35, y ≤ reachBytes) : ∃ (o : Int) (ms : List Mk) (A : Option Addr) (c : Nat), cs = [.int .i64 o, .slice A ms.length c] ∧ ms.length ≤ c ∧ ms.length ≤ 100000000000000 ∧ Rd w w.heap.size 3 A (ms.map encM) := by
 obtain ⟨xs, n, _, hx, hl, hlen, hf⟩ := DataW.trod_struct Tryz.underlying35 h
 rw [cells35] at hl
 match cs, hl with
 | [v0, v1], _ =>
  have g0 : DataW.trod enc Tryz.prog w base (fun _ => true) held n 3 (([v0, v1].drop 0).take (Tryz.prog.cellsOf 3)) = xs[0]? := hf 0 _ rfl
  have g1 : DataW.trod enc Tryz.prog w base (fun _ => true) held n 33 (([v0, v1].drop 1).take (Tryz.prog.cellsOf 33)) = xs[1]? := hf 1 _ rfl
  have hlN : xs.length = 2 := by rw [hlen]; rfl
  clear hlen hf
  rw [List.getElem?_eq_getElem (by omega)] at g0 g1
  rw [cells3] at g0
  rw [cells33] at g1
  have hpl : ∀ (i : Nat) (hi : i < xs.length), ∀ y ∈ xs[i].2, y.block < w.heap.size := fun i hi y hy => hlt y (by rw [hx]; exact List.mem_flatMap.2 ⟨xs[i], List.getElem_mem hi, hy⟩)
  have hwt : ∀ (i : Nat) (hi : i < xs.length) (t : TypeId), ((Tryz.prog.underlying 35).bind fun d => match d with | .struct fs => (fs.toList.map (·.type))[i]? | _ => none) = some t → ∀ y ∈ xs[i].1.weights Tryz.prog t, y ≤ reachBytes := fun i hi t ht y hy => hw y (by
   rw [hx]
   rw [Tryz.underlying35] at ht
   simp only [DataW.weights, Tryz.underlying35]
   exact DataW.weights_mem_each (j := i) ht (by rw [List.getElem?_map, List.getElem?_eq_getElem hi]; rfl) y hy)
  obtain ⟨a0, h0, _, _⟩ := DataW.trod_int Tryz.underlying3 g0
  obtain ⟨ss1, A1, c1, h1, hc1, hb1, hr1, hgd1⟩ := trod_list Tryz.underlying33 encM 3 cells57 (by omega) (fun _ => rfl) (fun _ => True) bytes57 (fun fuel cs x h hlt hw => by obtain ⟨a, b, c, h, _⟩ := mk_cells h hlt hw; exact ⟨(a, b, c), h, trivial⟩) g1 (hpl 1 _) (hwt 1 _ 33 (by rw [Tryz.underlying35]; rfl))
  simp at h0 h1
  obtain rfl := h0
  obtain rfl := h1
  exact ⟨a0, ss1, A1, c1, rfl, hc1, hb1, hr1⟩
theorem open_bk {H : Type} {enc : TypeId × Value → H} {w : World} {base : Nat} {held : Bool} {r : Reach} {b0 : Nat} {v : Value} {d : DataW H} {p : List MemPlace} (hv : Value.okWide Tryz.prog w r b0 35 v) (h : DataW.Trod enc Tryz.prog w base (fun _ => true) held 35 v d p) (hlt : ∀ x ∈ p, x.block < w.heap.size) (hw : ∀ y ∈ d.weights Tryz.prog 35, y ≤ reachBytes) :
  ∃ (o : Int) (ms : List Mk) (A : Option Addr) (c : Nat), v = .agg #[.int .i64 o, .slice A ms.length c] ∧ ms.length ≤ c ∧ ms.length ≤ 100000000000000 ∧ Rd w w.heap.size 3 A (ms.map encM) := by
 obtain ⟨cs, rfl, _⟩ := okWide_struct Tryz.underlying35 hv
 obtain ⟨fuel, hf⟩ := h
 obtain ⟨o, ms, A, c, hc, hgood⟩ := bk_cells hf hlt hw
 refine ⟨o, ms, A, c, ?_, hgood⟩
 obtain ⟨l⟩ := cs
 simp [Value.cells] at hc
 rw [hc]
end Go.Proofs.YtpfpamopmncifaaGreat
