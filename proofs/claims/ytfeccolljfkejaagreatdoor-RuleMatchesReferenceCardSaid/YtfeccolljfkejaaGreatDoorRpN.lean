/- Package rule's reader: the number of a numeral; what is at hand while a rule is read. -/
import Derived.Lib.AtoiErrMem
import Derived.Test.YtfeccolljfkejaaGreatDoorLaX
import Derived.Test.YtfeccolljfkejaaGreatDoorRuX
import Derived.Test.YtfeccolljfkejaaGreatDoorFeS
set_option linter.unusedSimpArgs false
set_option linter.unusedVariables false
namespace Go.Proofs.YtfeccolljfkejaaGreatDoor
open Go.RowKit Go.Sort
attribute [local go_sem] Steady steadyUpon
attribute [local go_sem ↓] hs_dr lt_add_r lt_add_r2 lt_add_r3 lt_add_r4 lt_add_r5 lt_add_r6
attribute [local go_sem] cell?_gd frozen?_gd setCell_gd size_grow tape_grow cell?_grow' frozen?_grow' setCell_grow' grow_grow grow_dr grow_drew dr_dr dr_drew drew_dr dr_alloc dr_setCell dr_cell dr_frozen dr_tape dr_drawn
attribute [local irreducible] wpSteady
def numV (x : ByteArray) : Int := (Lib.atoi x.data.toList).getD 0
def digs (l : List UInt8) : Bool := l.all fun b => inR 48 57 (b.toNat : Int)
theorem decFrom_digs : ∀ (l : List UInt8) (acc : Nat), digs l = true → ∃ n, Lib.decFrom acc l = some n
 | [], acc, _ => ⟨acc, rfl⟩
 | b :: r, acc, h => by
  unfold digs at h
  rw [List.all_cons, Bool.and_eq_true] at h
  have h1 : 48 ≤ b.toNat ∧ b.toNat ≤ 57 := by
   have := h.1
   unfold inR at this
   rw [decide_eq_true_eq] at this
   omega
  have hd : Lib.digitVal b = some (b.toNat - 48) := by unfold Lib.digitVal; rw [if_pos h1]
  obtain ⟨n, hn⟩ := decFrom_digs r (acc * 10 + (b.toNat - 48)) h.2
  refine ⟨n, ?_⟩
  unfold Lib.decFrom
  rw [hd]
  exact hn
theorem atoi_digs {l : List UInt8} (h : digs l = true) (hne : l ≠ []) : ∃ n, Lib.atoi l = some n := by
 cases l with
 | nil => exact absurd rfl hne
 | cons b r =>
  have h1 : 48 ≤ b.toNat ∧ b.toNat ≤ 57 := by
   have := h
   unfold digs at this
   rw [List.all_cons, Bool.and_eq_true] at this
   have := this.1
   unfold inR at this
   rw [decide_eq_true_eq] at this
   omega
  have n1 : (b == 45) = false := by
   rw [beq_eq_false_iff_ne]
   intro e
   rw [e] at h1
   exact absurd h1.1 (by decide)
  have n2 : (b == 43) = false := by
   rw [beq_eq_false_iff_ne]
   intro e
   rw [e] at h1
   exact absurd h1.1 (by decide)
  obtain ⟨n, hn⟩ := decFrom_digs (b :: r) 0 h
  refine ⟨(n : Int), ?_⟩
  simp only [Lib.atoi, n1, n2, Bool.false_eq_true, if_false]
  unfold Lib.decNat
  simp [hn]
theorem ext_list (s : ByteArray) (i j : Nat) : (s.extract i j).data.toList = (s.data.toList.drop i).take (j - i) := by
 rw [ByteArray.data_extract, Array.toList_extract]
theorem ext_while (p : Int → Bool) (s : ByteArray) (i : Nat) : (s.extract i (endOf p s i)).data.toList = (s.data.toList.drop i).takeWhile fun b => p (b.toNat : Int) := by
 rw [ext_list]
 have h := List.prefix_iff_eq_take.1 (List.takeWhile_prefix (fun b : UInt8 => p (b.toNat : Int)) (l := s.data.toList.drop i))
 rw [h]
 unfold endOf
 congr 1
 omega
theorem ext_digs (s : ByteArray) (i : Nat) : digs (s.extract i (endOf (inR 48 57) s i)).data.toList = true := by
 rw [ext_while]
 unfold digs
 exact List.all_takeWhile
theorem atoi_v (x : ByteArray) (hd : digs x.data.toList = true) (hn : numB x = true) (w : World) : Calls Tryz.prog 74 #[.string x] w (Ret w (.tuple #[.int .i64 (numV x), .nilIface])) := by
 unfold numB at hn
 rw [decide_eq_true_eq] at hn
 obtain ⟨n, h⟩ := atoi_digs hd (fun e => by
  have := ba_len x
  rw [e] at this
  simp at this
  omega)
 have e : numV x = n := by unfold numV; rw [h]; rfl
 rw [e]
 refine (Any.strconv_Atoi Tryz.lays172 x n (by omega) h w).mono ?_
 rintro e w' ⟨rfl, t, rfl⟩
 exact ⟨rfl, Grew.of_below (Lib.bytesWorld_below _ _ _)⟩
def opW : List ByteArray := [⟨#[]⟩, ⟨#[99, 97, 112]⟩, ⟨#[114, 111, 117, 110, 100]⟩, ⟨#[116, 104, 105, 110]⟩, ⟨#[103, 114, 111, 119]⟩, ⟨#[98, 111, 120]⟩]
def opA (k : Nat) : ByteArray := opW.getD k ⟨#[]⟩
theorem opA_get {k : Nat} (h : k < 6) : opW[k]? = some (opA k) := by
 unfold opA
 rw [List.getD_eq_getElem?_getD, List.getElem?_eq_getElem (by exact h)]
 rfl
def kdW : List ByteArray := [⟨#[]⟩, ⟨#[115, 111, 117, 110, 100, 105, 110, 103]⟩, ⟨#[119, 114, 101, 99, 107]⟩, ⟨#[97, 114, 101, 97]⟩, ⟨#[108, 105, 103, 104, 116]⟩, ⟨#[98, 117, 111, 121]⟩, ⟨#[122, 111, 110, 101]⟩]
def kdA (k : Nat) : ByteArray := kdW.getD k ⟨#[]⟩
theorem kdA_get {k : Nat} (h : k < 7) : kdW[k]? = some (kdA k) := by
 unfold kdA
 rw [List.getD_eq_getElem?_getD, List.getElem?_eq_getElem (by exact h)]
 rfl
/-- The words of the kinds, as the program's variable has them, below block B. -/
def KwAt (w : World) (B : Nat) : Prop := ∃ A c, w.cell? ⟨0, 0, none⟩ = some (.slice A 7 c) ∧ 0 < B ∧ Rd w B 1 A (kdW.map encS)
theorem KwAt.keep {w w' : World} {B : Nat} (h : KwAt w B) (hk : ∀ b i, b < B → w'.cell? ⟨b, i, none⟩ = w.cell? ⟨b, i, none⟩) : KwAt w' B := by
 obtain ⟨A, c, h1, h2, h3⟩ := h
 exact ⟨A, c, (hk 0 0 h2).trans h1, h2, h3.keep hk⟩
theorem gb_tr {w w1 w2 : World} {r : Option Nat} (h : w.grownBy w1 r) (k : w1.grownBy w2 r) : w.grownBy w2 r :=
 ⟨k.os.trans h.os, k.tape.trans h.tape, k.output.trans h.output, Nat.le_trans h.size k.size, fun b hb hne => (k.block b (Nat.lt_of_lt_of_le hb h.size) hne).trans (h.block b hb hne)⟩
theorem KwAt.gb {w w' : World} {B R : Nat} (h : KwAt w B) (g : w.grownBy w' (some R)) (hB : B ≤ R) (hs : B ≤ w.heap.size) : KwAt w' B :=
 h.keep fun b i hb => World.cell?_of_block (a := ⟨b, i, none⟩) (g.block b (by omega) (fun e => by injection e with e; omega))
/-- A row of one block reads on while the block stands. -/
theorem Rd.blk1 {w w' : World} {m b o : Nat} {xs : List (List Value)} (h : Rd w w.heap.size m (some ⟨b, o, none⟩) xs) (hb : w'.heap[b]? = w.heap[b]?) (hs : w.heap.size ≤ w'.heap.size) : Rd w' w'.heap.size m (some ⟨b, o, none⟩) xs := by
 rcases h with h | ⟨b', o', hA, hlt, hc⟩
 ·exact .inl h
 ·injection hA with hA
  injection hA with h1 h2
  subst h1 h2
  exact .inr ⟨b, o, rfl, by omega, fun k x hx j v hv => (World.cell?_of_block (a := ⟨b, o + k * m + j, none⟩) hb).trans (hc k x hx j v hv)⟩
/-- What is at hand while a rule is read: the reader's block, the rule's, the result's, the words of the kinds. -/
structure RS (w W : World) (B R X0 X : Nat) (s : ByteArray) (a q k n : Int) : Prop where
 rd : W.heap[R]? = some (rcl s a)
 x : W.heap[X]? = some (.cells #[.int .i64 q, .int .i64 k, .int .i64 n] 36 (0, 0))
 z : W.heap[X0]? = some (.cells #[.int .i64 0, .int .i64 0, .int .i64 0] 36 (0, 0))
 kw : KwAt W B
 gb : w.grownBy W (some R)
 lb : B ≤ R
 l0 : R < X0
 lx : X0 < X
 lw : w.heap.size ≤ X0
section
variable {w W W' : World} {B R X0 X : Nat} {s : ByteArray} {a a' q k n : Int}
theorem RS.rw (h : RS w W B R X0 X s a q k n) (r : RW R s a' W W') : RS w W' B R X0 X s a' q k n :=
 ⟨r.at_, r.old (by have := h.l0; have := h.lx; omega) h.x, r.old (by have := h.l0; omega) h.z, h.kw.gb r.gb h.lb (by have := blk_lt h.rd; have := h.lb; omega), gb_tr h.gb r.gb, h.lb, h.l0, h.lx, h.lw⟩
theorem RS.grew (h : RS w W B R X0 X s a q k n) (g : Grew W W') : RS w W' B R X0 X s a q k n := h.rw (RW.of h.rd g)
theorem RS.setR (h : RS w W B R X0 X s a q k n) (a' : Int) (g : Grew (W.setCell ⟨R, 1, none⟩ (.int .i64 a')) W') : RS w W' B R X0 X s a' q k n := h.rw (RW.set h.rd g)
theorem RS.setX (h : RS w W B R X0 X s a q k n) (i : Nat) (v : Value) {q' k' n' : Int} (hx : (#[.int .i64 q, .int .i64 k, .int .i64 n] : Array Value).setIfInBounds i v = #[.int .i64 q', .int .i64 k', .int .i64 n']) (g : Grew (W.setCell ⟨X, i, none⟩ v) W') : RS w W' B R X0 X s a q' k' n' := by
 refine RS.grew ⟨?_, ?_, ?_, ?_, ?_, h.lb, h.l0, h.lx, h.lw⟩ g
 ·exact (heap_setCell_other W ⟨X, i, none⟩ R v (by have := h.l0; have := h.lx; simp; omega)).trans h.rd
 ·rw [← hx]
  exact heap_setCell_same W X i _ _ v h.x
 ·exact (heap_setCell_other W ⟨X, i, none⟩ X0 v (by have := h.lx; simp; omega)).trans h.z
 ·exact h.kw.keep fun b j hb => World.cell?_setCell_other W ⟨X, i, none⟩ ⟨b, j, none⟩ v (fun e => by injection e with e; have := h.lb; have := h.l0; have := h.lx; omega)
 ·exact ⟨h.gb.os, h.gb.tape, h.gb.output, by simpa using h.gb.size, fun b hb hne => (heap_setCell_other W ⟨X, i, none⟩ b v (by have := h.lw; have := h.lx; simp; omega)).trans (h.gb.block b hb hne)⟩
end
/-- The result's block is written; the reader stays. -/
theorem RS.fin {w W W' : World} {B R X0 X : Nat} {s : ByteArray} {a q k n : Int} {v0 v1 v2 : Value} (h : RS w W B R X0 X s a q k n) (g : Grew (((W.setCell ⟨X0, 0, none⟩ v0).setCell ⟨X0, 1, none⟩ v1).setCell ⟨X0, 2, none⟩ v2) W') : RW R s a w W' := by
 have hR : R ≠ X0 := by have := h.l0; omega
 have hb : ∀ k, k ≠ X0 → (((W.setCell ⟨X0, 0, none⟩ v0).setCell ⟨X0, 1, none⟩ v1).setCell ⟨X0, 2, none⟩ v2).heap[k]? = W.heap[k]? := fun k hk => by
  rw [heap_setCell_other _ ⟨X0, 2, none⟩ k v2 hk, heap_setCell_other _ ⟨X0, 1, none⟩ k v1 hk, heap_setCell_other _ ⟨X0, 0, none⟩ k v0 hk]
 have hw : RW R s a w (((W.setCell ⟨X0, 0, none⟩ v0).setCell ⟨X0, 1, none⟩ v1).setCell ⟨X0, 2, none⟩ v2) := ⟨⟨h.gb.os, h.gb.tape, h.gb.output, by simpa using h.gb.size, fun b hb' hne => (hb b (by have := h.lw; omega)).trans (h.gb.block b hb' hne)⟩, (hb R hR).trans h.rd⟩
 exact hw.grew g
/-- The form of the rule that is read. -/
structure FA (W : World) (R X F b : Nat) (wd : ByteArray) (lo hi : Int) (fv : Value) (ks : List Int) : Prop where
 f : W.heap[F]? = some (.cells #[.string wd, .slice (some ⟨b, 0, none⟩) ks.length ks.length, .int .i64 lo, .int .i64 hi, fv] 74 (0, 0))
 kd : Rd W W.heap.size 1 (some ⟨b, 0, none⟩) (ks.map encN)
 fR : F ≠ R
 fX : F ≠ X
 bR : b ≠ R
 bX : b ≠ X
 bl : b < W.heap.size
section
variable {W W' : World} {R X F b : Nat} {wd s : ByteArray} {lo hi a a' : Int} {fv : Value} {ks : List Int}
theorem FA.rw (h : FA W R X F b wd lo hi fv ks) (r : RW R s a' W W') : FA W' R X F b wd lo hi fv ks :=
 ⟨r.old h.fR h.f, h.kd.blk1 (r.gb.block b h.bl (fun e => h.bR (Option.some.inj e))) r.gb.size, h.fR, h.fX, h.bR, h.bX, Nat.lt_of_lt_of_le h.bl r.gb.size⟩
theorem FA.grew (h : FA W R X F b wd lo hi fv ks) (g : Grew W W') : FA W' R X F b wd lo hi fv ks :=
 ⟨(g.heap (blk_lt h.f)).trans h.f, h.kd.up g, h.fR, h.fX, h.bR, h.bX, Nat.lt_of_lt_of_le h.bl g.below.size⟩
theorem FA.set (h : FA W R X F b wd lo hi fv ks) (i : Nat) (v : Value) (c : Nat) (hc : c = R ∨ c = X) (g : Grew (W.setCell ⟨c, i, none⟩ v) W') : FA W' R X F b wd lo hi fv ks := by
 have hF : F ≠ c := by rcases hc with rfl | rfl; exact h.fR; exact h.fX
 have hB : b ≠ c := by rcases hc with rfl | rfl; exact h.bR; exact h.bX
 exact FA.grew ⟨(heap_setCell_other W ⟨c, i, none⟩ F v hF).trans h.f, h.kd.blk1 (heap_setCell_other W ⟨c, i, none⟩ b v hB) (by simp), h.fR, h.fX, h.bR, h.bX, by simpa using h.bl⟩ g
end
/-- A kind behind a rule's word, and where it ends. -/
def kindAt (q : Nat) (s : ByteArray) (i : Nat) : Except (Nat × Int) (Nat × Nat) := match wordAt kdW s i with
 | .error e => .error e
 | .ok (k, a) => if (opKinds (q : Int)).contains (k : Int) = true then .ok (k, a + (kdA k).size) else .error (a, 12)
/-- A rule's number, and where it ends. -/
def numAt (q : Nat) (s : ByteArray) (i : Nat) : Except (Nat × Int) (Int × Nat) :=
 if numB (s.extract i (endOf (inR 48 57) s i)) = true then
  (if opLeast (q : Int) ≤ numV (s.extract i (endOf (inR 48 57) s i)) ∧ numV (s.extract i (endOf (inR 48 57) s i)) ≤ opMost (q : Int) then .ok (numV (s.extract i (endOf (inR 48 57) s i)), endOf (inR 48 57) s i) else .error (i, 3))
 else .error (i, 10)
/-- The mark behind a rule. -/
def tailAt (s : ByteArray) (i : Nat) : Except (Nat × Int) Nat := if endOf isBl s i < s.size ∧ bAt s (endOf isBl s i) = 59 then .ok (endOf isBl s i + 1) else .error (endOf isBl s i, 10)
/-- What follows a rule's word and kind. -/
def restAt (q k : Nat) (s : ByteArray) (i : Nat) : Except (Nat × Int) ((Int × Int × Int) × Nat) :=
 if q = 5 then (match tailAt s (endOf isBl s i) with
  | .error e => .error e
  | .ok b => .ok ((5, (k : Int), 0), b))
 else (match numAt q s (endOf isBl s i) with
  | .error e => .error e
  | .ok (n, j) => (match tailAt s j with
   | .error e => .error e
   | .ok b => .ok (((q : Int), (k : Int), n), b)))
/-- A rule, and where it ends, or an error and where. -/
def ruleAt (s : ByteArray) (i : Nat) : Except (Nat × Int) ((Int × Int × Int) × Nat) := match wordAt opW s i with
 | .error e => .error e
 | .ok (q, a) =>
  if q = 1 then restAt 1 0 s (a + (opA 1).size)
  else (match kindAt q s (a + (opA q).size) with
   | .error e => .error e
   | .ok (k, j) => restAt q k s j)
def RuleR (s : ByteArray) (R i : Nat) (w : World) (en : Ending) (w' : World) : Prop := match ruleAt s i with
 | .error (p, e) => PanR R p e w en w'
 | .ok ((o, k, n), a) => en = .returned (.agg #[.int .i64 o, .int .i64 k, .int .i64 n]) ∧ RW R s (a : Int) w w'
end Go.Proofs.YtfeccolljfkejaaGreatDoor
