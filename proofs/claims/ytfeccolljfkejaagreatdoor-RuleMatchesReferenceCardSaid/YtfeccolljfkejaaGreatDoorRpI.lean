/- Package rule's Print, walked: it hands back what the plain words say. Conditions: the words of the kinds and strconv's table are laid; the list is not longer than memory. The head of chapter 12: its examples, walked. Conditions: the words of the kinds and strconv's table are laid. -/
import Derived.Lib.AppendIntMem
import Derived.Laws.Concat
import Derived.Test.YtfeccolljfkejaaGreatDoorRpC
import Derived.Test.YtfeccolljfkejaaGreatDoorRpD
import Derived.Test.YtfeccolljfkejaaGreatDoorRuI
import Derived.Test.YtfeccolljfkejaaGreatDoorRpG
import Derived.Test.YtfeccolljfkejaaGreatDoorSaL
set_option linter.unusedSimpArgs false
set_option linter.unusedVariables false
set_option maxHeartbeats 16000000
set_option maxRecDepth 100000
namespace Go.Proofs.YtfeccolljfkejaaGreatDoor
open Go.RowKit Go.Sort
attribute [local go_sem] Steady steadyUpon
attribute [local go_sem ↓] hs_dr lt_add_r lt_add_r2 lt_add_r3 lt_add_r4 lt_add_r5 lt_add_r6
attribute [local go_sem] cell?_gd frozen?_gd setCell_gd size_grow tape_grow cell?_grow' frozen?_grow' setCell_grow' grow_grow grow_dr grow_drew dr_dr dr_drew drew_dr dr_alloc dr_setCell dr_cell dr_frozen dr_tape dr_drawn
attribute [local irreducible] wpSteady
theorem ru_memQ {rs : List Ru} (h : rsOk rs = true) : rs.length ≤ 40 ∧ ∀ r ∈ rs, r.ok = true := by
 unfold rsOk okTo at h
 rw [Bool.and_eq_true, decide_eq_true_eq, List.all_eq_true] at h
 refine ⟨h.1, fun r hr => ?_⟩
 obtain ⟨k, hk, e⟩ := List.getElem_of_mem hr
 have a := ruAt_get hk
 rw [List.getElem?_eq_getElem hk, e] at a
 injection a with a
 rw [a]
 exact h.2 k (List.mem_range.2 hk)
/-- The line of a rule. -/
def lineL (r : Ru) : List UInt8 := (opA r.1.toNat).data.toList ++ ((if r.1 = 1 then [] else 32 :: (kdA r.2.1.toNat).data.toList) ++ ((if r.1 = 5 then [] else 32 :: Lib.itoa r.2.2) ++ [59, 10]))
def printL (rs : List Ru) : List UInt8 := rs.flatMap lineL
/-- What Print hands back. -/
def printOf (rs : List Ru) : ByteArray × Int := if rsOk rs = true then (⟨(printL rs).toArray⟩, 0) else (⟨#[]⟩, 1)
/-- strconv's table of the powers of ten is laid. -/
def TabP (w : World) : Prop := Lib.TabIs Tryz.prog w "internal/strconv.uint64pow10" .u64 Lib.pow10Tab
theorem TabP.up {w w' : World} (h : TabP w) (g : Grew w w') : TabP w' := Lib.tabBelow_of_tabIs h w' g.below
theorem nd_le : ∀ (k u : Nat), u < 10 ^ (k + 1) → Lib.nDigits u ≤ k + 1
 | 0, u, h => by rw [Lib.nDigits_small (by simpa using h)]; omega
 | k + 1, u, h => by
  by_cases h1 : u < 10
  ·rw [Lib.nDigits_small h1]; omega
  ·rw [Lib.nDigits_big h1]
   have := nd_le k (u / 10) (by rw [Nat.pow_succ] at h; omega)
   omega
theorem itoa_len {n : Int} (h0 : 0 ≤ n) (h1 : n ≤ 100000) : (Lib.itoa n).length ≤ 6 := by
 unfold Lib.itoa
 rw [if_neg (by omega), Lib.decDigits_eq, List.length_map, List.length_range]
 exact nd_le 5 _ (by omega)
theorem opA_len (q : Nat) : (opA q).size ≤ 5 := by
 rw [← ba_len]
 match q with
 | 0 | 1 | 2 | 3 | 4 | 5 => decide
 | q + 6 => (unfold opA opW; simp)
theorem kdA_len (q : Nat) : (kdA q).size ≤ 8 := by
 rw [← ba_len]
 match q with
 | 0 | 1 | 2 | 3 | 4 | 5 | 6 => decide
 | q + 7 => (unfold kdA kdW; simp)
theorem rok_parts {o k n : Int} (h : ruleOk o k n = true) : (1 ≤ o ∧ o ≤ 5) ∧ (0 ≤ n ∧ n ≤ 100000) ∧ (0 ≤ k ∧ k ≤ 6) ∧ (o = 1 → k = 0) ∧ (o ≠ 1 → 1 ≤ k) ∧ (o = 5 → n = 0) := by
 unfold ruleOk at h
 rw [Bool.and_eq_true, Bool.and_eq_true, decide_eq_true_eq, decide_eq_true_eq] at h
 obtain ⟨h1, h2, h3⟩ := h
 have hc : o = 1 ∨ o = 2 ∨ o = 3 ∨ o = 4 ∨ o = 5 := by omega
 rcases hc with rfl | rfl | rfl | rfl | rfl <;> simp [opKinds, opLeast, opMost] at h2 h3 <;> omega
theorem line_len {r : Ru} (h : r.ok = true) : (lineL r).length ≤ 23 := by
 obtain ⟨_, h2, _⟩ := rok_parts h
 have a := opA_len r.1.toNat
 have b := kdA_len r.2.1.toNat
 have c := itoa_len h2.1 h2.2
 unfold lineL
 rw [List.length_append, List.length_append, List.length_append, ba_len]
 have d1 : (if r.1 = 1 then [] else 32 :: (kdA r.2.1.toNat).data.toList : List UInt8).length ≤ 9 := by
  split
  ·simp
  ·rw [List.length_cons, ba_len]; omega
 have d2 : (if r.1 = 5 then [] else 32 :: Lib.itoa r.2.2 : List UInt8).length ≤ 7 := by
  split
  ·simp
  ·rw [List.length_cons]; omega
 simp only [List.length_cons, List.length_nil]
 omega
theorem print_len : ∀ {l : List Ru}, (∀ r ∈ l, r.ok = true) → (printL l).length ≤ 23 * l.length
 | [], _ => by simp [printL]
 | r :: l, h => by
  have h1 := line_len (h r (by simp))
  have h2 := print_len (l := l) (fun r hr => h r (by simp [hr]))
  unfold printL at *
  rw [List.flatMap_cons, List.length_append, List.length_cons]
  omega
theorem printL_succ {rs : List Ru} {k : Nat} (h : k < rs.length) : printL (rs.take (k + 1)) = printL (rs.take k) ++ lineL (ruAt rs k) := by
 unfold printL
 rw [List.take_add_one, ruAt_get h, List.flatMap_append]
 simp
theorem itoa_v (n : Int) (h0 : 0 ≤ n) (h1 : n ≤ 100000) (w : World) (ht : TabP w) : Calls Tryz.prog 36 #[.int .i64 n] w (Ret w (.string ⟨(Lib.itoa n).toArray⟩)) := by
 refine (Any.strconv_Itoa Tryz.laysM171 n (by omega) (by omega) w ht).mono ?_
 rintro e w' ⟨rfl, k, os, rfl⟩
 exact ⟨rfl, ⟨k + w.drawn, os⟩, by simp [World.drewN, dr, Sort.grow, Nat.add_comm]⟩
theorem build_up {B b : Nat} {bs : List Value} {W W' : World} (h : Lib.IsBuilderF 66 5 B b bs W) (g : Grew W W') : Lib.IsBuilderF 66 5 B b bs W' := by
 have one : ∀ p, Lib.BuilderAtF 66 5 B b p bs W → Lib.BuilderAtF 66 5 B b p bs W' := fun p ⟨hB, v, hbk, hown, hne⟩ =>
  ⟨hB, v, (g.heap (blk_lt hbk)).trans hbk, hown.kept (g.grownBy none) (Decidable.em _), hne⟩
 exact h.imp (one _) (one _)
/-- What a write to the builder does. -/
structure WrR (B b : Nat) (bs : List Value) (s : ByteArray) (w w' : World) : Prop where
 bd : Lib.IsBuilderF 66 5 B b (bs ++ Lib.strCells s) w'
 be : Below B w w'
 ok : Lib.OthersKept 5 (some b) w w'
theorem write_v (B b : Nat) (bs : List Value) (s : ByteArray) (w : World) (h : Lib.IsBuilderF 66 5 B b bs w) (hlen : bs.length + s.size ≤ 140737488355328) (hBw : B ≤ w.heap.size) :
  Calls Tryz.prog 34 #[.pointer (some ⟨b, 0, none⟩), .string s] w fun e w' => e = .returned (.tuple #[.int .i64 s.size, .nilIface]) ∧ WrR B b bs s w w' := by
 refine (Any.Builder_WriteString_k Tryz.lays166 Tryz.Builder_Extra_166 B b bs s w h hlen hBw).mono ?_
 rintro e w' ⟨rfl, h1, h2, h3⟩
 exact ⟨rfl, .inr h1, h2, h3⟩
theorem string_v (B b : Nat) (l : List UInt8) (w : World) (h : Lib.IsBuilderF 66 5 B b (Lib.byteCells l) w) (hBw : B ≤ w.heap.size) :
  Calls Tryz.prog 37 #[.pointer (some ⟨b, 0, none⟩)] w fun e w' => e = .returned (.string ⟨l.toArray⟩) ∧ Below B w w' := by
 refine (Any.Builder_String_any_k Tryz.lays169 Tryz.Builder_Extra_169 B b l w h hBw).mono ?_
 rintro e w' ⟨rfl, _, h2, _⟩
 exact ⟨rfl, h2⟩
/-- A round of Print: the builder, and the rule's own block. -/
structure PrB (w1 W : World) (t : Nat) (o k n : Int) (l : List UInt8) : Prop where
 bd : Lib.IsBuilderF 66 5 w1.heap.size w1.heap.size (Lib.byteCells l) W
 be : Below w1.heap.size w1 W
 at_ : W.heap[t]? = some (.cells #[.int .i64 o, .int .i64 k, .int .i64 n] 36 (0, 0))
 ne : t ≠ w1.heap.size
section
variable {w1 W W' : World} {t : Nat} {o k n : Int} {l : List UInt8}
theorem PrB.up (h : PrB w1 W t o k n l) (g : Grew W W') : PrB w1 W' t o k n l :=
 ⟨build_up h.bd g, Grew.below ((Grew.of_below h.be).trans g), (g.heap (blk_lt h.at_)).trans h.at_, h.ne⟩
theorem PrB.put {s : ByteArray} (h : PrB w1 W t o k n l) (x : WrR w1.heap.size w1.heap.size (Lib.byteCells l) s W W') : PrB w1 W' t o k n (l ++ s.data.toList) := by
 refine ⟨?_, h.be.trans x.be, x.ok t _ h.at_ (fun e => h.ne (Option.some.inj e)) (fun c fz e => by injection e with _ e; exact absurd e (by decide)), h.ne⟩
 have := x.bd
 rw [show Lib.byteCells l ++ Lib.strCells s = Lib.byteCells (l ++ s.data.toList) by simp [Lib.byteCells, Lib.strCells]] at this
 exact this
end
theorem mk_size (l : List UInt8) : (⟨l.toArray⟩ : ByteArray).size = l.length := rfl
theorem lit32 : (⟨#[32]⟩ : ByteArray).size = 1 := rfl
theorem lit59 : (⟨#[59, 10]⟩ : ByteArray).size = 2 := rfl
theorem bc_len (l : List UInt8) : (Lib.byteCells l).length = l.length := by unfold Lib.byteCells; rw [List.length_map]
theorem ba_app (x y : ByteArray) : (x ++ y).data.toList = x.data.toList ++ y.data.toList := by simp
theorem print_v (rs : List Ru) (A : Option Addr) (c : Nat) (B : Nat) (w : World) (hr : Rd w w.heap.size 3 A (rs.map encR)) (hc : rs.length ≤ 100000000000000) (hkw : KwAt w B) (hB : B ≤ w.heap.size) (htb : TabP w) :
  Calls Tryz.prog 13 #[.slice A rs.length c] w (Ret w (.tuple #[.string (printOf rs).1, .int .i64 (printOf rs).2])) := by
 have hm := hmix
 obtain ⟨u, hu⟩ : ∃ u, rsOk rs = u := ⟨_, rfl⟩
 have k1 := hide (fun W (hg : Grew w W) => RuValid_v rs A c u W (hr.up hg) hc hu)
 unfold printOf
 rw [hu]
 have HR := hide hr
 have HK := hide hkw
 have HT := hide htb
 have HU := hide hu
 clear hu hr hkw htb
 cases u
 ·rw [if_neg (by simp)]
  go_enter Tryz.func13, Tryz.ntmps13
  go_wp2_with (go_at_call 20; with_reducible refine crv (k1.out _ gw) fun _ _ => ?_; dsimp only)
  go_ret2
  exact Ret.mk' rfl gw
 ·rw [if_pos rfl]
  obtain ⟨hl40, hok⟩ := ru_memQ HU.out
  have HOK := hide hok
  clear hok
  go_enter Tryz.func13, Tryz.ntmps13
  go_wp2_with fail
  refine (k1.out _ gw).mono ?_
  rintro e w1 ⟨rfl, hg1⟩
  have HG1 := hide hg1
  clear hg1 k1
  dsimp only
  go_wp2_with fail
  go_loopw [12] (fun i wr => ∃ k : Nat, k ≤ rs.length ∧ i = .int .i64 k ∧ AppG (Lib.IsBuilderF 66 5 w1.heap.size w1.heap.size (Lib.byteCells (printL (rs.take k))) wr ∧ Below w1.heap.size w1 wr)) (fun i _ => rs.length - (intOf i).toNat)
  case atStart => exact ⟨0, by omega, rfl, show _ ∧ _ from ⟨.inl ⟨Nat.le_refl _, _, heap_alloc_new _ _, World.ownsRowF_nil _ _ _ _, by simp [Value.ownBlock]⟩, Grew.below gw⟩⟩
  case round =>
   obtain ⟨k, hk, rfl, hrel⟩ := hrel
   obtain ⟨hbd, hbe⟩ := hrel.stop
   have HBD := hide hbd
   have HBE := hide hbe
   have hgw : Grew w wr := HG1.out.trans (Grew.of_below hbe)
   have HGW := hide hgw
   have hws := hbe.size
   have hwb : w1.heap.size < wr.heap.size := by rcases hbd with h | h <;> exact h.lt
   clear hbd hbe hrel hgw
   by_cases hlt : k < rs.length
   ·have HL : Hid ((printL (rs.take k)).length ≤ 920) := hide (by
     have := print_len (l := rs.take k) (fun r hr => HOK.out r (List.mem_of_mem_take hr))
     rw [List.length_take] at this
     omega)
    have HST := hide (printL_succ hlt)
    obtain ⟨b, off, hA, hb, h0, h1, h2⟩ := ruCells (HR.out.up HGW.out) hlt
    have hix := idx_run (cap := c) Tryz.underlying22 Tryz.sizeOf36 hA.out hlt
    have hrk : (ruAt rs k).ok = true := HOK.out _ (List.mem_of_getElem? (ruAt_get hlt))
    obtain ⟨x, hx⟩ : ∃ x, ruAt rs k = x := ⟨_, rfl⟩
    obtain ⟨l, hl⟩ : ∃ l, printL (rs.take k) = l := ⟨_, rfl⟩
    rw [hx] at h0 h1 h2 hrk HST
    rw [hl] at HBD HL HST
    clear hx hl hA
    obtain ⟨o, kd, n⟩ := x
    dsimp only at h0 h1 h2
    have hpa := rok_parts hrk
    dsimp only at hpa
    obtain ⟨ho, hn, hkd, hk1, hk2, hn5⟩ := hpa
    obtain ⟨q, rfl⟩ : ∃ q : Nat, o = (q : Int) := ⟨o.toNat, by omega⟩
    obtain ⟨kk, rfl⟩ : ∃ q : Nat, kd = (q : Int) := ⟨kd.toNat, by omega⟩
    have hq6 : q < 6 := by omega
    have HO := hide ho
    have HN := hide hn
    have HKD := hide hkd
    have HK1 := hide hk1
    have HK2 := hide hk2
    have HIL := hide (itoa_len hn.1 hn.2)
    have HOL := hide (opA_len q)
    have HKL := hide (kdA_len kk)
    clear hrk ho hn hkd hk1 hk2 hn5
    go_upto_region 7 with fail
    refine wp_name ?_
    intro W0 hW
    have HP0 : Hid (PrB w1 W0 wr.heap.size (q : Int) (kk : Int) n l) := hide (by
     rw [← hW]
     exact ⟨build_up HBD.out gw, (HBE.out.trans (Below.refl _ _)).grown ((Grew.alloc (Grew.refl wr) _).grownBy none) hws (by simp), heap_alloc_new _ _, by omega⟩)
    clear hW h0 h1 h2 hix HBD HBE hb
    refine wp_region_held_drew (S := (fun w' => w'.cell? ⟨wr.heap.size, 0, none⟩ = some (.int .i64 (q : Int)))) hm ?_ (fun hHeld => ?_)
    ·first | exact hHeld | exact blk_cell HP2.out.at_ 0 | exact blk_cell HP1.out.at_ 0 | exact blk_cell (HP0.out.up gw).at_ 0
    refine tk 1 ?_
    try simp only [Act.put, setA, getA]
    refine tk 2 ?_
    try simp only [Act.put, setA, getA]
    refine wpAnyH_ready (rs := [0]) (by kernel_rfl) (by simp) ?_
    refine AllReadyH.cons (o := _) rfl (fun K hK => ?_) AllReadyH.nil
    go_simp
    first | ((go_at_call 35); (refine (forms_v _).mono ?_); rintro e Wn ⟨g, b1, b2, b3, b4, b5, rfl, hF, hgr⟩; have HP1 := hide (HP0.out.up (Grew.trans gw hgr)); obtain ⟨A5, m5, lo5, hi5, fv, c0, c1, c2, c3, c4, hfv⟩ := hF.row5 hq6; have cl := blk_lt hF.row; have hix := idx_run (cap := 6) (len := 6) (A := some ⟨g, 0, none⟩) (b := g) (off := 0) Tryz.underlying75 Tryz.sizeOf74 rfl hq6; simp only [Nat.zero_add] at hix; clear hF hgr c1 c2 c3 c4 hfv; dsimp only) | ((go_at_call 34); (refine (write_v w1.heap.size w1.heap.size _ _ _ (HP1.out.up gw).bd (by rw [bc_len]; have e1 := HL.out; have e2 := HOL.out; have e3 := HKL.out; have e4 := HIL.out; (try have e5 := HXS.out); (try simp only [List.length_append, ba_len, ByteArray.size_append, lit32, lit59, mk_size, List.length_cons, List.length_nil]); omega) (by have := HP1.out.be.size; (try simp only [hs_dr]); omega)).mono ?_); rintro e Wm ⟨rfl, hx⟩; have HP2 := hide ((HP1.out.up gw).put hx); clear hx; dsimp only) | skip
    refine hK.out _ _ ?_ (fun hHeld => ?_)
    ·first | exact hHeld | exact blk_cell HP2.out.at_ 0 | exact blk_cell HP1.out.at_ 0 | exact blk_cell (HP0.out.up gw).at_ 0
    clear hK K
    try simp only [Act.put, setA, getA]
    refine tk 3 ?_
    try simp only [Act.put, setA, getA]
    refine tk 4 ?_
    try simp only [Act.put, setA, getA]
    refine wpAnyH_ready (rs := [5]) (by kernel_rfl) (by simp) ?_
    refine AllReadyH.cons (o := _) rfl (fun K hK => ?_) AllReadyH.nil
    go_simp
    first | ((go_at_call 35); (refine (forms_v _).mono ?_); rintro e Wn ⟨g, b1, b2, b3, b4, b5, rfl, hF, hgr⟩; have HP1 := hide (HP0.out.up (Grew.trans gw hgr)); obtain ⟨A5, m5, lo5, hi5, fv, c0, c1, c2, c3, c4, hfv⟩ := hF.row5 hq6; have cl := blk_lt hF.row; have hix := idx_run (cap := 6) (len := 6) (A := some ⟨g, 0, none⟩) (b := g) (off := 0) Tryz.underlying75 Tryz.sizeOf74 rfl hq6; simp only [Nat.zero_add] at hix; clear hF hgr c1 c2 c3 c4 hfv; dsimp only) | ((go_at_call 34); (refine (write_v w1.heap.size w1.heap.size _ _ _ (HP1.out.up gw).bd (by rw [bc_len]; have e1 := HL.out; have e2 := HOL.out; have e3 := HKL.out; have e4 := HIL.out; (try have e5 := HXS.out); (try simp only [List.length_append, ba_len, ByteArray.size_append, lit32, lit59, mk_size, List.length_cons, List.length_nil]); omega) (by have := HP1.out.be.size; (try simp only [hs_dr]); omega)).mono ?_); rintro e Wm ⟨rfl, hx⟩; have HP2 := hide ((HP1.out.up gw).put hx); clear hx; dsimp only) | skip
    refine hK.out _ _ ?_ (fun hHeld => ?_)
    ·first | exact hHeld | exact blk_cell HP2.out.at_ 0 | exact blk_cell HP1.out.at_ 0 | exact blk_cell (HP0.out.up gw).at_ 0
    clear hK K
    try simp only [Act.put, setA, getA]
    refine wpAnyH_ready (rs := [6]) (by kernel_rfl) (by simp) ?_
    refine AllReadyH.cons (o := _) rfl (fun K hK => ?_) AllReadyH.nil
    go_simp
    first | ((go_at_call 35); (refine (forms_v _).mono ?_); rintro e Wn ⟨g, b1, b2, b3, b4, b5, rfl, hF, hgr⟩; have HP1 := hide (HP0.out.up (Grew.trans gw hgr)); obtain ⟨A5, m5, lo5, hi5, fv, c0, c1, c2, c3, c4, hfv⟩ := hF.row5 hq6; have cl := blk_lt hF.row; have hix := idx_run (cap := 6) (len := 6) (A := some ⟨g, 0, none⟩) (b := g) (off := 0) Tryz.underlying75 Tryz.sizeOf74 rfl hq6; simp only [Nat.zero_add] at hix; clear hF hgr c1 c2 c3 c4 hfv; dsimp only) | ((go_at_call 34); (refine (write_v w1.heap.size w1.heap.size _ _ _ (HP1.out.up gw).bd (by rw [bc_len]; have e1 := HL.out; have e2 := HOL.out; have e3 := HKL.out; have e4 := HIL.out; (try have e5 := HXS.out); (try simp only [List.length_append, ba_len, ByteArray.size_append, lit32, lit59, mk_size, List.length_cons, List.length_nil]); omega) (by have := HP1.out.be.size; (try simp only [hs_dr]); omega)).mono ?_); rintro e Wm ⟨rfl, hx⟩; have HP2 := hide ((HP1.out.up gw).put hx); clear hx; dsimp only) | skip
    refine hK.out _ _ ?_ (fun hHeld => ?_)
    ·first | exact hHeld | exact blk_cell HP2.out.at_ 0 | exact blk_cell HP1.out.at_ 0 | exact blk_cell (HP0.out.up gw).at_ 0
    clear hK K
    try simp only [Act.put, setA, getA]
    refine wpAnyH_done (by kernel_rfl) ?_ _
    have p0 : Wm.cell? ⟨wr.heap.size, 0, none⟩ = some _ := blk_cell HP2.out.at_ 0
    have p1 : Wm.cell? ⟨wr.heap.size, 1, none⟩ = some _ := blk_cell HP2.out.at_ 1
    have p2 : Wm.cell? ⟨wr.heap.size, 2, none⟩ = some _ := blk_cell HP2.out.at_ 2
    have pl := blk_lt HP2.out.at_
    clear hHeld
    by_cases hq1 : q = 1
    ·subst hq1
     have HQ1 : Hid (((1 : Nat) : Int) = 1) := hide rfl
     have HQ5 : Hid (¬ ((1 : Nat) : Int) = 5) := hide (by decide)
     go_wp2_with fail
     refine (itoa_v n HN.out.1 HN.out.2 _ (HT.out.up (HG1.out.trans ((Grew.of_below HP2.out.be).trans gw)))).mono ?_
     rintro e Wi ⟨rfl, hgi⟩
     obtain ⟨X, hX⟩ : ∃ X, (⟨(Lib.itoa n).toArray⟩ : ByteArray) = X := ⟨_, rfl⟩
     have hXs : X.size ≤ 6 := by rw [← hX, mk_size]; exact HIL.out
     have hXl : Hid (X.data.toList = Lib.itoa n) := hide (by rw [← hX])
     rw [hX]
     have z1 : ¬ 9223372036854775807 < 1 + (X).size := by omega
     have z2 : 1 + (X).size ≤ 9223372036854775807 := by omega
     have z3 : ¬ 9223372036854775807 < (⟨#[32]⟩ : ByteArray).size + (X).size := by rw [lit32]; omega
     have z4 : (⟨#[32]⟩ : ByteArray).size + (X).size ≤ 9223372036854775807 := by rw [lit32]; omega
     have HXS := hide hXs
     clear hX hXs
     have HP3 := hide (HP2.out.up (Grew.trans gw hgi))
     clear hgi
     dsimp only
     go_wp2_with fail
     ((refine (write_v w1.heap.size w1.heap.size _ _ _ (HP3.out.up gw).bd (by rw [bc_len]; have e1 := HL.out; have e2 := HOL.out; have e3 := HKL.out; have e4 := HIL.out; (try have e5 := HXS.out); (try simp only [List.length_append, ba_len, ByteArray.size_append, lit32, lit59, mk_size, List.length_cons, List.length_nil]); omega) (by have := HP3.out.be.size; (try simp only [hs_dr]); omega)).mono ?_); rintro e Wm ⟨rfl, hx⟩; have HP4 := hide ((HP3.out.up gw).put hx); clear hx; dsimp only)
     go_wp2_with fail
     ((refine (write_v w1.heap.size w1.heap.size _ _ _ (HP4.out.up gw).bd (by rw [bc_len]; have e1 := HL.out; have e2 := HOL.out; have e3 := HKL.out; have e4 := HIL.out; (try have e5 := HXS.out); (try simp only [List.length_append, ba_len, ByteArray.size_append, lit32, lit59, mk_size, List.length_cons, List.length_nil]); omega) (by have := HP4.out.be.size; (try simp only [hs_dr]); omega)).mono ?_); rintro e Wm ⟨rfl, hx⟩; have HP5 := hide ((HP4.out.up gw).put hx); clear hx; dsimp only)
     go_wp2_with fail
     go_roundw
     case rel => exact ⟨k + 1, by omega, by go_num, show _ ∧ _ from ⟨by
      rw [HST.out]
      have hf := HP5.out.bd
      simpa [lineL, ba_app, HQ1.out, HQ5.out, hXl.out] using hf, HP5.out.be⟩⟩
     case measure => simp [intOf]; omega
    ·have hq1' : ¬ (q : Int) = 1 := by omega
     have hq1b : ((q : Int) == 1) = false := by simpa using hq1'
     have HQ1 := hide hq1'
     obtain ⟨Ak, ck, g0, gB, hrdk⟩ := HK.out.keep (old_cell_lt (HG1.out.trans (Grew.of_below HP2.out.be)) hB)
     obtain ⟨bk, offk, hAk, hbk, ck1⟩ := strCell hrdk (kdA_get (k := kk) (by have := HKD.out; omega))
     have hixk := idx_run (cap := ck) (k := kk) (len := 7) Tryz.underlying77 Tryz.sizeOf9 hAk.out (by have := HKD.out; omega)
     simp only [Nat.mul_one] at hixk
     have hKs := HKL.out
     have z1 : ¬ 9223372036854775807 < 1 + (kdA kk).size := by omega
     have z2 : 1 + (kdA kk).size ≤ 9223372036854775807 := by omega
     have z3 : ¬ 9223372036854775807 < (⟨#[32]⟩ : ByteArray).size + (kdA kk).size := by rw [lit32]; omega
     have z4 : (⟨#[32]⟩ : ByteArray).size + (kdA kk).size ≤ 9223372036854775807 := by rw [lit32]; omega
     clear hrdk hAk hq1 hKs
     go_wp2_with fail
     ((refine (write_v w1.heap.size w1.heap.size _ _ _ (HP2.out.up gw).bd (by rw [bc_len]; have e1 := HL.out; have e2 := HOL.out; have e3 := HKL.out; have e4 := HIL.out; (try have e5 := HXS.out); (try simp only [List.length_append, ba_len, ByteArray.size_append, lit32, lit59, mk_size, List.length_cons, List.length_nil]); omega) (by have := HP2.out.be.size; (try simp only [hs_dr]); omega)).mono ?_); rintro e Wm ⟨rfl, hx⟩; have HP3 := hide ((HP2.out.up gw).put hx); clear hx; dsimp only)
     have p0 : Wm.cell? ⟨wr.heap.size, 0, none⟩ = some _ := blk_cell HP3.out.at_ 0
     have p1 : Wm.cell? ⟨wr.heap.size, 1, none⟩ = some _ := blk_cell HP3.out.at_ 1
     have p2 : Wm.cell? ⟨wr.heap.size, 2, none⟩ = some _ := blk_cell HP3.out.at_ 2
     have pl := blk_lt HP3.out.at_
     clear g0 ck1 hixk z1 z2 z3 z4
     by_cases hq5 : q = 5
     ·subst hq5
      have HQ5 : Hid (((5 : Nat) : Int) = 5) := hide rfl
      go_wp2_with fail
      ((refine (write_v w1.heap.size w1.heap.size _ _ _ (HP3.out.up gw).bd (by rw [bc_len]; have e1 := HL.out; have e2 := HOL.out; have e3 := HKL.out; have e4 := HIL.out; (try have e5 := HXS.out); (try simp only [List.length_append, ba_len, ByteArray.size_append, lit32, lit59, mk_size, List.length_cons, List.length_nil]); omega) (by have := HP3.out.be.size; (try simp only [hs_dr]); omega)).mono ?_); rintro e Wm ⟨rfl, hx⟩; have HP4 := hide ((HP3.out.up gw).put hx); clear hx; dsimp only)
      go_wp2_with fail
      go_roundw
      case rel => exact ⟨k + 1, by omega, by go_num, show _ ∧ _ from ⟨by
       rw [HST.out]
       have hf := HP4.out.bd
       simpa [lineL, ba_app, HQ1.out, HQ5.out] using hf, HP4.out.be⟩⟩
      case measure => simp [intOf]; omega
     ·have hq5' : ¬ (q : Int) = 5 := by omega
      have hq5b : ((q : Int) == 5) = false := by simpa using hq5'
      have HQ5 := hide hq5'
      clear hq5
      go_wp2_with fail
      refine (itoa_v n HN.out.1 HN.out.2 _ (HT.out.up (HG1.out.trans ((Grew.of_below HP3.out.be).trans gw)))).mono ?_
      rintro e Wi ⟨rfl, hgi⟩
      obtain ⟨X, hX⟩ : ∃ X, (⟨(Lib.itoa n).toArray⟩ : ByteArray) = X := ⟨_, rfl⟩
      have hXs : X.size ≤ 6 := by rw [← hX, mk_size]; exact HIL.out
      have hXl : Hid (X.data.toList = Lib.itoa n) := hide (by rw [← hX])
      rw [hX]
      have z1 : ¬ 9223372036854775807 < 1 + (X).size := by omega
      have z2 : 1 + (X).size ≤ 9223372036854775807 := by omega
      have z3 : ¬ 9223372036854775807 < (⟨#[32]⟩ : ByteArray).size + (X).size := by rw [lit32]; omega
      have z4 : (⟨#[32]⟩ : ByteArray).size + (X).size ≤ 9223372036854775807 := by rw [lit32]; omega
      have HXS := hide hXs
      clear hX hXs
      have HP4 := hide (HP3.out.up (Grew.trans gw hgi))
      clear hgi
      dsimp only
      go_wp2_with fail
      ((refine (write_v w1.heap.size w1.heap.size _ _ _ (HP4.out.up gw).bd (by rw [bc_len]; have e1 := HL.out; have e2 := HOL.out; have e3 := HKL.out; have e4 := HIL.out; (try have e5 := HXS.out); (try simp only [List.length_append, ba_len, ByteArray.size_append, lit32, lit59, mk_size, List.length_cons, List.length_nil]); omega) (by have := HP4.out.be.size; (try simp only [hs_dr]); omega)).mono ?_); rintro e Wm ⟨rfl, hx⟩; have HP5 := hide ((HP4.out.up gw).put hx); clear hx; dsimp only)
      go_wp2_with fail
      ((refine (write_v w1.heap.size w1.heap.size _ _ _ (HP5.out.up gw).bd (by rw [bc_len]; have e1 := HL.out; have e2 := HOL.out; have e3 := HKL.out; have e4 := HIL.out; (try have e5 := HXS.out); (try simp only [List.length_append, ba_len, ByteArray.size_append, lit32, lit59, mk_size, List.length_cons, List.length_nil]); omega) (by have := HP5.out.be.size; (try simp only [hs_dr]); omega)).mono ?_); rintro e Wm ⟨rfl, hx⟩; have HP6 := hide ((HP5.out.up gw).put hx); clear hx; dsimp only)
      go_wp2_with fail
      go_roundw
      case rel => exact ⟨k + 1, by omega, by go_num, show _ ∧ _ from ⟨by
       rw [HST.out]
       have hf := HP6.out.bd
       simpa [lineL, ba_app, HQ1.out, HQ5.out, hXl.out] using hf, HP6.out.be⟩⟩
      case measure => simp [intOf]; omega
   ·obtain rfl : k = rs.length := by omega
    rw [List.take_length] at HBD
    go_wp2_with fail
    refine (string_v w1.heap.size w1.heap.size (printL rs) _ HBD.out (by omega)).mono ?_
    rintro e W ⟨rfl, hbe⟩
    have HG := hide (HG1.out.trans (Grew.of_below (HBE.out.trans hbe)))
    clear hbe
    dsimp only
    go_wp2_with fail
    go_ret2
    exact Ret.mk' rfl HG.out
end Go.Proofs.YtfeccolljfkejaaGreatDoor
namespace Go.Proofs.YtfeccolljfkejaaGreatDoor
open Go.RowKit Go.Sort
attribute [local go_sem] Steady steadyUpon
attribute [local go_sem ↓] hs_dr lt_add_r lt_add_r2 lt_add_r3 lt_add_r4 lt_add_r5 lt_add_r6
attribute [local go_sem] cell?_gd frozen?_gd setCell_gd size_grow tape_grow cell?_grow' frozen?_grow' setCell_grow' grow_grow grow_dr grow_drew dr_dr dr_drew drew_dr dr_alloc dr_setCell dr_cell dr_frozen dr_tape dr_drawn
attribute [local irreducible] wpSteady
theorem ruAtC {w : World} {B : Nat} {A : Option Addr} {rs : List Ru} {k : Nat} {p : Ru} (h : Rd w B 3 A (rs.map encR)) (hx : rs[k]? = some p) :
  ∃ b off, Hid (A = some ⟨b, off, none⟩) ∧ b < B ∧ w.cell? ⟨b, off + k * 3, none⟩ = some (.int .i64 p.1) ∧ w.cell? ⟨b, off + k * 3 + 1, none⟩ = some (.int .i64 p.2.1) ∧ w.cell? ⟨b, off + k * 3 + 2, none⟩ = some (.int .i64 p.2.2) := by
 have hk : k < rs.length := (List.getElem?_eq_some_iff.1 hx).1
 have e : ruAt rs k = p := by
  have := ruAt_get hk
  rw [hx] at this
  exact (Option.some.inj this).symm
 rw [← e]
 exact ruCells h hk
theorem ruSame_t (a : List Ru) (A B : Option Addr) (c c' : Nat) (w : World) (hra : Rd w w.heap.size 3 A (a.map encR)) (hrb : Rd w w.heap.size 3 B (a.map encR)) (hl : a.length ≤ 100000000000000) :
  Calls Tryz.prog 15 #[.slice A a.length c, .slice B a.length c'] w (Ret w (.bool true)) := by
 have hm := hmix
 have HRA := hide hra
 have HRB := hide hrb
 clear hra hrb
 go_enter Tryz.func15, Tryz.ntmps15
 go_wp2_with fail
 go_loopw [5] (fun i wr => ∃ k : Nat, k ≤ a.length ∧ i = .int .i64 k ∧ Grew w wr) (fun i _ => a.length - (intOf i).toNat)
 case atStart => exact ⟨0, by omega, rfl, gw⟩
 case round =>
  obtain ⟨k, hk, rfl, hg⟩ := hrel
  have HG := hide hg
  clear hg
  by_cases hlt : k < a.length
  ·obtain ⟨p, hp⟩ : ∃ p, a[k]? = some p := ⟨_, List.getElem?_eq_getElem hlt⟩
   obtain ⟨x, off, hA, hb, h0, h1, h2⟩ := ruAtC (HRA.out.up HG.out) hp
   obtain ⟨x', off', hA', hb', h3, h4, h5⟩ := ruAtC (HRB.out.up HG.out) hp
   have hix := idx_run (cap := c) Tryz.underlying22 Tryz.sizeOf36 hA.out hlt
   have hix2 := idx_run (cap := c') Tryz.underlying22 Tryz.sizeOf36 hA'.out hlt
   clear hp hA hA'
   obtain ⟨p1, p2, p3⟩ := p; dsimp only at h0 h1 h2 h3 h4 h5
   go_wp2_with fail
   refine wp_region_qas 9 [] [] hm (h := ?_)
   repeat (refine wpSteady_step (fun K hK => ?_); go_simp; refine hK _ ?_; clear hK K)
   refine rq0 fun nq osq => ?_
   try simp only [Act.put, setA]
   try dsimp only
   go_wp2_with fail
   go_roundw
   case rel => exact ⟨k + 1, by omega, by go_num, HG.out.trans gw⟩
   case measure => simp [intOf]; omega
  ·obtain rfl : k = a.length := by omega
   go_wp2_with fail
   go_ret
   exact Ret.mk' rfl (HG.out.trans gw)
def s1 : FV := { id := 1, kind := 1, x := 0, y := 0, rad := 5, aA := none, ac := 0, area := [], dep := 27, sym := 0, sA := none, sc := 0, secs := [] }
def s2 : FV := { id := 2, kind := 1, x := 6, y := 8, rad := 2, aA := none, ac := 0, area := [], dep := 31, sym := 0, sA := none, sc := 0, secs := [] }
def s3 : FV := { id := 3, kind := 2, x := 0, y := 0, rad := 1, aA := none, ac := 0, area := [], dep := 8, sym := 0, sA := none, sc := 0, secs := [] }
def exS : List FV := [s1, s2, s3]
theorem root100 : rootOf 100 = 10 := by
 obtain ⟨h0, _, h1, h2⟩ := root_spec 100 (by omega) (by omega)
 generalize rootOf 100 = r at *
 have a : r ≤ 10 := by
  refine Int.le_of_lt_add_one (Int.lt_of_not_ge fun h => ?_)
  have : (11 : Int) * 11 ≤ r * r := Int.mul_le_mul (by omega) (by omega) (by omega) (by omega)
  omega
 have b : 10 ≤ r := by
  refine Int.le_of_lt_add_one (Int.lt_of_not_ge fun h => ?_)
  have : (r + 1) * (r + 1) ≤ 10 * 10 := Int.mul_le_mul (by omega) (by omega) (by omega) (by omega)
  omega
 omega
theorem ex_hi (f g : FV) (hf : f.x = 6 ∧ f.y = 8) (hg : g.x = 0 ∧ g.y = 0) : hiF f g = 10 := by
 unfold hiF distOf
 rw [hf.1, hf.2, hg.1, hg.2, show dt (6, 8) (0, 0) (0, 0) = 100 from rfl, root100]
 rfl
theorem ex_lies (f g : FV) (hf : f.x = 6 ∧ f.y = 8 ∧ f.rad = 2) (hg : g.x = 0 ∧ g.y = 0 ∧ g.rad = 5) : liesF f g = false := by
 unfold liesF
 rw [hf.1, hf.2.1, hf.2.2, hg.1, hg.2.1, hg.2.2]
 decide
theorem discs12 : discsOf 1 exS = [s1, s2] := by
 unfold discsOf
 rw [show exS.filter (isKind 1) = [s1, s2] from rfl]
 exact (sort_uniq sortD_id sortD_trans sortD_total (by decide) (List.Perm.refl _) (by simp [show leD s1 s2 = true from rfl])).symm
theorem kept10 : keptTo 10 [s1, s2] 2 = [{ s1 with rad := 12 }] := by
 rw [keptTo_succ (by simp), keptTo_succ (by simp)]
 show thinStep 10 (thinStep 10 [] s1) s2 = _
 rw [show thinStep 10 [] s1 = [s1] from rfl]
 rw [step_some (k := 0) (by simp) (by rfl) (by omega)]
 show [joinF _ _] = _
 unfold joinF
 rw [if_neg (by simp [fAt, s1]), if_neg (by rw [ex_lies _ _ ⟨rfl, rfl, rfl⟩ ⟨rfl, rfl, rfl⟩]; simp)]
 unfold growF
 rw [ex_hi _ _ ⟨rfl, rfl⟩ ⟨rfl, rfl⟩]
 rfl
theorem kept9 : keptTo 9 [s1, s2] 2 = [s1, s2] := by
 rw [keptTo_succ (by simp), keptTo_succ (by simp)]
 rfl
theorem th10 : thinOf 1 10 exS = [{ s1 with rad := 12 }, s3] := by
 unfold thinOf
 rw [discs12]
 show (othersOf 1 exS ++ keptTo 10 [s1, s2] 2).mergeSort leI = _
 rw [kept10]
 exact (sort_uniq sortI_id sortI_trans sortI_total (by decide) (List.Perm.swap _ _ _) (by simp [show leI { s1 with rad := 12 } s3 = true from rfl])).symm
theorem th9 : thinOf 1 9 exS = exS := by
 unfold thinOf
 rw [discs12]
 show (othersOf 1 exS ++ keptTo 9 [s1, s2] 2).mergeSort leI = _
 rw [kept9]
 exact (sort_uniq sortI_id sortI_trans sortI_total (by decide) (by show List.Perm [s1, s2, s3] [s3, s1, s2]; exact (List.perm_append_comm (l₁ := [s1, s2]) (l₂ := [s3]))) (by simp [exS, show leI s1 s2 = true from rfl, show leI s1 s3 = true from rfl, show leI s2 s3 = true from rfl])).symm
theorem xa : applyOf 2 1 10 exS = ([{ s1 with dep := 20 }, { s2 with dep := 30 }, s3], 0) := by kernel_rfl
theorem xb : applyOf 3 1 10 exS = ([{ s1 with rad := 12 }, s3], 0) := by
 unfold applyOf applyL
 rw [if_pos (by kernel_rfl), if_pos rfl, th10, if_pos (by kernel_rfl)]
 rfl
theorem xc : applyOf 3 1 9 exS = (exS, 0) := by
 unfold applyOf applyL
 rw [if_pos (by kernel_rfl), if_pos rfl, th9, if_pos (by kernel_rfl)]
 rfl
theorem xd : applyOf 4 2 4 exS = ([s1, s2, { s3 with rad := 4 }], 0) := by kernel_rfl
def ruW : List Ru := [(1, 0, 300), (2, 2, 10)]
theorem cap12 : capOf ruW = (300, 0) := by kernel_rfl
theorem dd300 : Lib.itoa 300 = [51, 48, 48] := by
 unfold Lib.itoa
 rw [if_neg (by decide)]
 show Lib.decDigits 300 = _
 rw [Lib.decDigits_eq, Lib.nDigits_unique 2 300 (by decide) (by decide)]
 rfl
theorem dd10 : Lib.itoa 10 = [49, 48] := by
 unfold Lib.itoa
 rw [if_neg (by decide)]
 show Lib.decDigits 10 = _
 rw [Lib.decDigits_eq, Lib.nDigits_unique 1 10 (by decide) (by decide)]
 rfl
theorem print12 : printOf ruW = (⟨#[99, 97, 112, 32, 51, 48, 48, 59, 10, 114, 111, 117, 110, 100, 32, 119, 114, 101, 99, 107, 32, 49, 48, 59, 10]⟩, 0) := by
 unfold printOf
 rw [if_pos (by kernel_rfl)]
 have l1 : lineL (1, 0, 300) = [99, 97, 112, 32, 51, 48, 48, 59, 10] := by
  unfold lineL
  rw [dd300]
  rfl
 have l2 : lineL (2, 2, 10) = [114, 111, 117, 110, 100, 32, 119, 114, 101, 99, 107, 32, 49, 48, 59, 10] := by
  unfold lineL
  rw [dd10]
  rfl
 show ((⟨(lineL (1, 0, 300) ++ (lineL (2, 2, 10) ++ [])).toArray⟩ : ByteArray), (0 : Int)) = _
 rw [l1, l2]
 rfl
theorem bare3 {fs : List FV} {a b c : FV} (h : fs.map FV.bare = [a, b, c].map FV.bare) : ∃ x y z, fs = [x, y, z] ∧ x.bare = a.bare ∧ y.bare = b.bare ∧ z.bare = c.bare := by
 rcases fs with _ | ⟨x, _ | ⟨y, _ | ⟨z, _ | ⟨u, t⟩⟩⟩⟩ <;> simp at h
 exact ⟨x, y, z, rfl, h⟩
theorem bare2 {fs : List FV} {a b : FV} (h : fs.map FV.bare = [a, b].map FV.bare) : ∃ x y, fs = [x, y] ∧ x.bare = a.bare ∧ y.bare = b.bare := by
 rcases fs with _ | ⟨x, _ | ⟨y, _ | ⟨z, t⟩⟩⟩ <;> simp at h
 exact ⟨x, y, rfl, h⟩
theorem bdep {f g : FV} (h : f.bare = g.bare) : f.dep = g.dep := (congrArg FV.dep h : f.bare.dep = g.bare.dep)
theorem brad {f g : FV} (h : f.bare = g.bare) : f.rad = g.rad := (congrArg FV.rad h : f.bare.rad = g.bare.rad)
theorem bid {f g : FV} (h : f.bare = g.bare) : f.id = g.id := (congrArg FV.id h : f.bare.id = g.bare.id)
theorem calls_name {P : Program} {f : FuncId} {args : Array Value} {w : World} {post : Ending → World → Prop} (h : ∀ X, w = X → Calls P f args X post) : Calls P f args w post := h _ rfl
theorem small_v (w : World) : Calls Tryz.prog 33 #[] w fun e w' => ∃ g, e = .returned (.slice (some ⟨g, 0, none⟩) 3 3) ∧ FRd w' w'.heap.size (some ⟨g, 0, none⟩) exS ∧ Grew w w' := by
 have hm := hmix
 go_enter Tryz.func33, Tryz.ntmps33
 go_wp2_with fail
 go_ret
 exact ⟨w.heap.size, rfl, frd_blk exS (heap_alloc_new _ _) rfl (by simp [exS, s1, s2, s3]), gw⟩
/-- Rows of features, by the field. -/
theorem fldA {w : World} {fs : List FV} {A : Option Addr} (h : FRd w w.heap.size A fs) (h0 : 0 < fs.length) : ∃ b off, A = some ⟨b, off, none⟩ ∧ b < w.heap.size ∧ ∀ k f, fs[k]? = some f → w.cell? ⟨b, off + k * 9, none⟩ = some (.int .i64 f.id) ∧ w.cell? ⟨b, off + k * 9 + 4, none⟩ = some (.int .i64 f.rad) ∧ w.cell? ⟨b, off + k * 9 + 6, none⟩ = some (.int .i64 f.dep) := by
 rcases h.row with h | ⟨b, off, hA, hb, hc⟩
 ·rw [List.map_eq_nil_iff] at h
  rw [h] at h0
  simp at h0
 ·exact ⟨b, off, hA, hb, fun k f hf => have q := hc k f.cells (by rw [List.getElem?_map, hf]; rfl); ⟨q 0 _ rfl, q 4 _ rfl, q 6 _ rfl⟩⟩
theorem head_v (B : Nat) (w : World) (hkw : KwAt w B) (hB : B ≤ w.heap.size) (htb : TabP w) : Calls Tryz.prog 12 #[] w (Ret w (.bool true)) := by
 have hm := hmix
 have HK := hide hkw
 have HT := hide htb
 have HKA : Hid (∀ W, Grew w W → KwAt W B ∧ B ≤ W.heap.size) := hide (fun W hg => ⟨HK.out.keep (old_cell_lt hg hB), Nat.le_trans hB hg.below.size⟩)
 clear hkw htb hB
 refine calls_name ?_
 intro W0 hW0
 have HGw0 : Hid (Grew w W0) := hide (by rw [← hW0]; exact Grew.refl w)
 clear hW0
 go_enter Tryz.func12, Tryz.ntmps12
 go_wp2_with fail
 refine calls_name ?_
 intro X hX
 have HX : Hid (Grew W0 X) := hide (by rw [← hX]; exact gw)
 clear hX
 have k := parse_v ⟨#[99, 97, 112, 32, 51, 48, 48, 59, 32, 114, 111, 117, 110, 100, 32, 119, 114, 101, 99, 107, 32, 49, 48, 59]⟩ B X (HKA.out X (HGw0.out.trans HX.out)).1 (HKA.out X (HGw0.out.trans HX.out)).2
 unfold ParR at k
 rw [pex1] at k
 refine k.mono ?_
 clear k
 rintro e W1 ⟨A0, c0, rfl, hrd, hg⟩
 have HG : Hid (Grew W0 W1) := hide (HX.out.trans hg)
 have HGw1 : Hid (Grew w W1) := hide (HGw0.out.trans HG.out)
 have HP1 := hide hrd
 clear hg HX HG HGw0 hrd 
 dsimp only
 go_wp2_with fail
 refine calls_name ?_
 intro X hX
 have HX : Hid (Grew W1 X) := hide (by rw [← hX]; exact gw)
 clear hX
 have k := parse_v ⟨#[116, 104, 105, 110, 32, 97, 114, 101, 97, 32, 53, 59]⟩ B X (HKA.out X (HGw1.out.trans HX.out)).1 (HKA.out X (HGw1.out.trans HX.out)).2
 unfold ParR at k
 rw [pex2] at k
 refine k.mono ?_
 clear k
 rintro e W2 ⟨A1, c1, rfl, hrd, hg⟩
 have HG : Hid (Grew W1 W2) := hide (HX.out.trans hg)
 have HP2 := hide (HP1.out.up HG.out)
 have HGw2 : Hid (Grew w W2) := hide (HGw1.out.trans HG.out)
 clear hg HX HG HGw1 hrd HP1
 dsimp only
 go_wp2_with fail
 refine calls_name ?_
 intro X hX
 have HX : Hid (Grew W2 X) := hide (by rw [← hX]; exact gw)
 clear hX
 have k := parse_v ⟨#[99, 97, 112, 32, 51, 48, 48]⟩ B X (HKA.out X (HGw2.out.trans HX.out)).1 (HKA.out X (HGw2.out.trans HX.out)).2
 unfold ParR at k
 rw [pex3] at k
 refine k.mono ?_
 clear k
 rintro e W3 ⟨A2, c2, rfl, hrd, hg⟩
 have HG : Hid (Grew W2 W3) := hide (HX.out.trans hg)
 have HP3 := hide (HP2.out.up HG.out)
 have HGw3 : Hid (Grew w W3) := hide (HGw2.out.trans HG.out)
 clear hg HX HG HGw2 hrd HP2
 dsimp only
 go_wp2_with fail
 refine calls_name ?_
 intro X hX
 have HX : Hid (Grew W3 X) := hide (by rw [← hX]; exact gw)
 clear hX
 have k := print_v ruW A0 c0 B X (HP3.out.up HX.out) (by decide) (HKA.out X (HGw3.out.trans HX.out)).1 (HKA.out X (HGw3.out.trans HX.out)).2 (HT.out.up (HGw3.out.trans HX.out))
 rw [print12] at k
 refine k.mono ?_
 clear k
 rintro e W4 ⟨rfl, hg⟩
 have HG : Hid (Grew W3 W4) := hide (HX.out.trans hg)
 have HP4 := hide (HP3.out.up HG.out)
 have HGw4 : Hid (Grew w W4) := hide (HGw3.out.trans HG.out)
 clear hg HX HG HGw3 HP3
 dsimp only
 go_wp2_with fail
 refine calls_name ?_
 intro X hX
 have HX : Hid (Grew W4 X) := hide (by rw [← hX]; exact gw)
 have HWT : Hid (Rd X X.heap.size 3 (some ⟨W4.heap.size, 0, none⟩) (ruW.map encR)) := hide (by rw [← hX]; exact Rd.blkA encR_len ruW (heap_alloc_new _ _) rfl)
 clear hX
 refine (ruSame_t ruW _ _ _ _ _ (HP4.out.up HX.out) HWT.out (by decide)).mono ?_
 rintro e W5 ⟨rfl, hg⟩
 have HG : Hid (Grew W4 W5) := hide (HX.out.trans hg)
 have HGw5 : Hid (Grew w W5) := hide (HGw4.out.trans HG.out)
 have HW5 := hide (HWT.out.up hg)
 clear hg HX HG HGw4 HP4 HWT
 dsimp only
 go_wp2_with fail
 refine calls_name ?_
 intro X hX
 have HX : Hid (Grew W5 X) := hide (by rw [← hX]; exact gw)
 clear hX
 have k := small_v X
 refine k.mono ?_
 clear k
 rintro e W6 ⟨g5, rfl, hrd, hg⟩
 have HG : Hid (Grew W5 W6) := hide (HX.out.trans hg)
 have HW6 := hide (HW5.out.up HG.out)
 have HGw6 : Hid (Grew w W6) := hide (HGw5.out.trans HG.out)
 have HS6 := hide hrd
 clear hg HX HG HGw5 HW5
 dsimp only
 go_wp2_with fail
 refine calls_name ?_
 intro X hX
 have HX : Hid (Grew W6 X) := hide (by rw [← hX]; exact gw)
 clear hX
 have k := Apply_v 2 1 10 exS (some ⟨g5, 0, none⟩) 3 X (HS6.out.up HX.out) (by decide)
 unfold FeatR at k
 rw [xa] at k
 refine k.mono ?_
 clear k
 rintro e W7 ⟨AA, cA, fA, rfl, hb, hrd, hg⟩
 have HG : Hid (Grew W6 W7) := hide (HX.out.trans hg)
 have HW7 := hide (HW6.out.up HG.out)
 have HS7 := hide (HS6.out.up HG.out)
 have HGw7 : Hid (Grew w W7) := hide (HGw6.out.trans HG.out)
 have HA7 := hide hrd
 clear hg HX HG HGw6 HW6 HS6
 obtain ⟨a0, a1, a2, rfl, ha0, ha1, ha2⟩ := bare3 hb
 have da0 : a0.dep = 20 := bdep ha0
 have da1 : a1.dep = 30 := bdep ha1
 have da2 : a2.dep = 8 := bdep ha2
 clear ha0 ha1 ha2
 clear hb hrd
 dsimp only
 go_wp2_with fail
 clear HS7
 refine calls_name ?_
 intro X hX
 have HX : Hid (Grew W7 X) := hide (by rw [← hX]; exact gw)
 clear hX
 have k := small_v X
 refine k.mono ?_
 clear k
 rintro e W8 ⟨g7, rfl, hrd, hg⟩
 have HG : Hid (Grew W7 W8) := hide (HX.out.trans hg)
 have HW8 := hide (HW7.out.up HG.out)
 have HA8 := hide (HA7.out.up HG.out)
 have HGw8 : Hid (Grew w W8) := hide (HGw7.out.trans HG.out)
 have HS8 := hide hrd
 clear hg HX HG HGw7 HW7 HA7
 dsimp only
 go_wp2_with fail
 refine calls_name ?_
 intro X hX
 have HX : Hid (Grew W8 X) := hide (by rw [← hX]; exact gw)
 clear hX
 have k := Apply_v 3 1 10 exS (some ⟨g7, 0, none⟩) 3 X (HS8.out.up HX.out) (by decide)
 unfold FeatR at k
 rw [xb] at k
 refine k.mono ?_
 clear k
 rintro e W9 ⟨AB, cB, fB, rfl, hb, hrd, hg⟩
 have HG : Hid (Grew W8 W9) := hide (HX.out.trans hg)
 have HW9 := hide (HW8.out.up HG.out)
 have HA9 := hide (HA8.out.up HG.out)
 have HS9 := hide (HS8.out.up HG.out)
 have HGw9 : Hid (Grew w W9) := hide (HGw8.out.trans HG.out)
 have HB9 := hide hrd
 clear hg HX HG HGw8 HW8 HA8 HS8
 obtain ⟨b0, b1, rfl, hb0, hb1⟩ := bare2 hb
 have ib0 : b0.id = 1 := bid hb0
 have rb0 : b0.rad = 12 := brad hb0
 have ib1 : b1.id = 3 := bid hb1
 clear hb0 hb1
 clear hb hrd
 dsimp only
 go_wp2_with fail
 clear HS9
 refine calls_name ?_
 intro X hX
 have HX : Hid (Grew W9 X) := hide (by rw [← hX]; exact gw)
 clear hX
 have k := small_v X
 refine k.mono ?_
 clear k
 rintro e W10 ⟨g9, rfl, hrd, hg⟩
 have HG : Hid (Grew W9 W10) := hide (HX.out.trans hg)
 have HW10 := hide (HW9.out.up HG.out)
 have HA10 := hide (HA9.out.up HG.out)
 have HB10 := hide (HB9.out.up HG.out)
 have HGw10 : Hid (Grew w W10) := hide (HGw9.out.trans HG.out)
 have HS10 := hide hrd
 clear hg HX HG HGw9 HW9 HA9 HB9
 dsimp only
 go_wp2_with fail
 refine calls_name ?_
 intro X hX
 have HX : Hid (Grew W10 X) := hide (by rw [← hX]; exact gw)
 clear hX
 have k := Apply_v 3 1 9 exS (some ⟨g9, 0, none⟩) 3 X (HS10.out.up HX.out) (by decide)
 unfold FeatR at k
 rw [xc] at k
 refine k.mono ?_
 clear k
 rintro e W11 ⟨AC, cC, fC, rfl, hb, hrd, hg⟩
 have HG : Hid (Grew W10 W11) := hide (HX.out.trans hg)
 have HW11 := hide (HW10.out.up HG.out)
 have HA11 := hide (HA10.out.up HG.out)
 have HB11 := hide (HB10.out.up HG.out)
 have HS11 := hide (HS10.out.up HG.out)
 have HGw11 : Hid (Grew w W11) := hide (HGw10.out.trans HG.out)
 have HC11 := hide hrd
 clear hg HX HG HGw10 HW10 HA10 HB10 HS10
 obtain ⟨q0, q1, q2, rfl, hq0, hq1, hq2⟩ := bare3 hb
 clear hb hrd
 dsimp only
 go_wp2_with fail
 clear HS11
 refine calls_name ?_
 intro X hX
 have HX : Hid (Grew W11 X) := hide (by rw [← hX]; exact gw)
 clear hX
 have k := small_v X
 refine k.mono ?_
 clear k
 rintro e W12 ⟨g11, rfl, hrd, hg⟩
 have HG : Hid (Grew W11 W12) := hide (HX.out.trans hg)
 have HW12 := hide (HW11.out.up HG.out)
 have HA12 := hide (HA11.out.up HG.out)
 have HB12 := hide (HB11.out.up HG.out)
 have HC12 := hide (HC11.out.up HG.out)
 have HGw12 : Hid (Grew w W12) := hide (HGw11.out.trans HG.out)
 have HS12 := hide hrd
 clear hg HX HG HGw11 HW11 HA11 HB11 HC11
 dsimp only
 go_wp2_with fail
 refine calls_name ?_
 intro X hX
 have HX : Hid (Grew W12 X) := hide (by rw [← hX]; exact gw)
 clear hX
 have k := Apply_v 4 2 4 exS (some ⟨g11, 0, none⟩) 3 X (HS12.out.up HX.out) (by decide)
 unfold FeatR at k
 rw [xd] at k
 refine k.mono ?_
 clear k
 rintro e W13 ⟨AD, cD, fD, rfl, hb, hrd, hg⟩
 have HG : Hid (Grew W12 W13) := hide (HX.out.trans hg)
 have HW13 := hide (HW12.out.up HG.out)
 have HA13 := hide (HA12.out.up HG.out)
 have HB13 := hide (HB12.out.up HG.out)
 have HC13 := hide (HC12.out.up HG.out)
 have HS13 := hide (HS12.out.up HG.out)
 have HGw13 : Hid (Grew w W13) := hide (HGw12.out.trans HG.out)
 have HD13 := hide hrd
 clear hg HX HG HGw12 HW12 HA12 HB12 HC12 HS12
 obtain ⟨d0, d1, d2, rfl, hd0, hd1, hd2⟩ := bare3 hb
 have rd2 : d2.rad = 4 := brad hd2
 clear hd0 hd1 hd2
 clear hb hrd
 dsimp only
 go_wp2_with fail
 clear HS13
 refine calls_name ?_
 intro X hX
 have HX : Hid (Grew W13 X) := hide (by rw [← hX]; exact gw)
 clear hX
 have k := RuCap_v ruW (some ⟨W4.heap.size, 0, none⟩) 2 (300, 0) X (HW13.out.up HX.out) (by decide) cap12
 refine k.mono ?_
 clear k
 rintro e W14 ⟨rfl, hg⟩
 have HG : Hid (Grew W13 W14) := hide (HX.out.trans hg)
 have HW14 := hide (HW13.out.up HG.out)
 have HA14 := hide (HA13.out.up HG.out)
 have HB14 := hide (HB13.out.up HG.out)
 have HC14 := hide (HC13.out.up HG.out)
 have HD14 := hide (HD13.out.up HG.out)
 have HGw14 : Hid (Grew w W14) := hide (HGw13.out.trans HG.out)
 clear hg HX HG HGw13 HW13 HA13 HB13 HC13 HD13
 obtain ⟨bA, oA, rfl, lA, hfA⟩ := fldA HA14.out (by simp)
 obtain ⟨bB, oB, rfl, lB, hfB⟩ := fldA HB14.out (by simp)
 have iA0 : ∀ w, (Instr.indexAt 37 (.slice (some ⟨bA, oA, none⟩) 3 cA) (.int .i64 0)).run Tryz.prog w = .ok (.pointer (some ⟨bA, oA, none⟩)) w := idx_run0 Tryz.underlying37 Tryz.sizeOf47 rfl (by omega)
 have iA1 : ∀ w, (Instr.indexAt 37 (.slice (some ⟨bA, oA, none⟩) 3 cA) (.int .i64 1)).run Tryz.prog w = .ok (.pointer (some ⟨bA, oA + 9, none⟩)) w := idx_run (k := 1) Tryz.underlying37 Tryz.sizeOf47 rfl (by omega)
 have iA2 : ∀ w, (Instr.indexAt 37 (.slice (some ⟨bA, oA, none⟩) 3 cA) (.int .i64 2)).run Tryz.prog w = .ok (.pointer (some ⟨bA, oA + 18, none⟩)) w := idx_run (k := 2) Tryz.underlying37 Tryz.sizeOf47 rfl (by omega)
 have iB0 : ∀ w, (Instr.indexAt 37 (.slice (some ⟨bB, oB, none⟩) 2 cB) (.int .i64 0)).run Tryz.prog w = .ok (.pointer (some ⟨bB, oB, none⟩)) w := idx_run0 Tryz.underlying37 Tryz.sizeOf47 rfl (by omega)
 have iB1 : ∀ w, (Instr.indexAt 37 (.slice (some ⟨bB, oB, none⟩) 2 cB) (.int .i64 1)).run Tryz.prog w = .ok (.pointer (some ⟨bB, oB + 9, none⟩)) w := idx_run (k := 1) Tryz.underlying37 Tryz.sizeOf47 rfl (by omega)
 have eA0 : W14.cell? ⟨bA, oA + 6, none⟩ = some (.int .i64 20) := by have := (hfA 0 a0 rfl).2.2; simpa [da0] using this
 have eA1 : W14.cell? ⟨bA, oA + 15, none⟩ = some (.int .i64 30) := by have := (hfA 1 a1 rfl).2.2; simpa [da1, Nat.add_assoc] using this
 have eA2 : W14.cell? ⟨bA, oA + 24, none⟩ = some (.int .i64 8) := by have := (hfA 2 a2 rfl).2.2; simpa [da2, Nat.add_assoc] using this
 have eB0 : W14.cell? ⟨bB, oB, none⟩ = some (.int .i64 1) := by have := (hfB 0 b0 rfl).1; simpa [ib0] using this
 have eB1 : W14.cell? ⟨bB, oB + 4, none⟩ = some (.int .i64 12) := by have := (hfB 0 b0 rfl).2.1; simpa [rb0] using this
 have eB2 : W14.cell? ⟨bB, oB + 9, none⟩ = some (.int .i64 3) := by have := (hfB 1 b1 rfl).1; simpa [ib1] using this
 clear hfA hfB da0 da1 da2 ib0 rb0 ib1 HA14 HB14
 dsimp only
 go_wp2_with fail
 clear eA0 eA1 eA2 eB0 eB1 eB2 iA0 iA1 iA2 iB0 iB1 lA lB
 refine calls_name ?_
 intro X hX
 have HX : Hid (Grew W14 X) := hide (by rw [← hX]; exact gw)
 clear hX
 have k := small_v X
 refine k.mono ?_
 clear k
 rintro e W15 ⟨gS, rfl, hrd, hg⟩
 have HG : Hid (Grew W14 W15) := hide (HX.out.trans hg)
 have HW15 := hide (HW14.out.up HG.out)
 have HC15 := hide (HC14.out.up HG.out)
 have HD15 := hide (HD14.out.up HG.out)
 have HGw15 : Hid (Grew w W15) := hide (HGw14.out.trans HG.out)
 have HS15 := hide hrd
 clear hg HX HG HGw14 HW14 HC14 HD14
 dsimp only
 go_wp2_with fail
 refine calls_name ?_
 intro X hX
 have HX : Hid (Grew W15 X) := hide (by rw [← hX]; exact gw)
 clear hX
 have k := liSame_t [q0, q1, q2] exS 3 AC (some ⟨gS, 0, none⟩) cC 3 X rfl (HC15.out.up HX.out) (HS15.out.up HX.out) (by show [q0.bare, q1.bare, q2.bare] = _; rw [hq0, hq1, hq2]; rfl) (by simp)
 refine k.mono ?_
 clear k hq0 hq1 hq2
 rintro e W16 ⟨rfl, hg⟩
 have HG : Hid (Grew W15 W16) := hide (HX.out.trans hg)
 have HW16 := hide (HW15.out.up HG.out)
 have HC16 := hide (HC15.out.up HG.out)
 have HD16 := hide (HD15.out.up HG.out)
 have HS16 := hide (HS15.out.up HG.out)
 have HGw16 : Hid (Grew w W16) := hide (HGw15.out.trans HG.out)
 clear hg HX HG HGw15 HW15 HC15 HD15 HS15
 obtain ⟨bD, oD, rfl, lD, hfD⟩ := fldA HD16.out (by simp)
 have iD2 : ∀ w, (Instr.indexAt 37 (.slice (some ⟨bD, oD, none⟩) 3 cD) (.int .i64 2)).run Tryz.prog w = .ok (.pointer (some ⟨bD, oD + 18, none⟩)) w := idx_run (k := 2) Tryz.underlying37 Tryz.sizeOf47 rfl (by omega)
 have eD2 : W16.cell? ⟨bD, oD + 22, none⟩ = some (.int .i64 4) := by have := (hfD 2 d2 rfl).2.1; simpa [rd2, Nat.add_assoc] using this
 clear hfD rd2 HD16 HC16 HS16
 dsimp only
 go_wp2_with fail
 clear iD2 eD2 lD
 refine calls_name ?_
 intro X hX
 have HX : Hid (Grew W16 X) := hide (by rw [← hX]; exact gw)
 clear hX
 have k := RuValid_v ruW (some ⟨W4.heap.size, 0, none⟩) 2 true X (HW16.out.up HX.out) (by decide) (by kernel_rfl)
 refine k.mono ?_
 clear k
 rintro e W17 ⟨rfl, hg⟩
 have HG : Hid (Grew W16 W17) := hide (HX.out.trans hg)
 have HW17 := hide (HW16.out.up HG.out)
 have HGw17 : Hid (Grew w W17) := hide (HGw16.out.trans HG.out)
 clear hg HX HG HGw16 HW16
 dsimp only
 go_wp2_with fail
 refine calls_name ?_
 intro X hX
 have HX : Hid (Grew W17 X) := hide (by rw [← hX]; exact gw)
 have HZ : Hid (Rd X X.heap.size 3 (some ⟨W17.heap.size, 0, none⟩) (([(0, 0, 0)] : List Ru).map encR)) := hide (by rw [← hX]; exact Rd.blkA encR_len [(0, 0, 0)] (heap_alloc_new _ _) rfl)
 clear hX
 have k := RuValid_v [(0, 0, 0)] (some ⟨W17.heap.size, 0, none⟩) 1 false X HZ.out (by decide) (by kernel_rfl)
 refine k.mono ?_
 clear k HZ
 rintro e W18 ⟨rfl, hg⟩
 have HG : Hid (Grew W17 W18) := hide (HX.out.trans hg)
 have HW18 := hide (HW17.out.up HG.out)
 have HGw18 : Hid (Grew w W18) := hide (HGw17.out.trans HG.out)
 clear hg HX HG HGw17 HW17
 dsimp only
 go_wp2_with fail
 go_ret
 exact Ret.mk' rfl (HGw18.out.trans gw)
theorem few_v (A B : Option Addr) (a b c d : Nat) (r : Bool) (w : World) (h : decide (a ≤ 10 ∧ b ≤ 16) = r) : Calls Tryz.prog 16 #[.slice A a c, .slice B b d] w (Ret w (.bool r)) := by
 have hcase : (a ≤ 10 ∧ b ≤ 16 ∧ r = true) ∨ (¬ a ≤ 10 ∧ r = false) ∨ (a ≤ 10 ∧ ¬ b ≤ 16 ∧ r = false) := by
  by_cases h1 : a ≤ 10 <;> by_cases h2 : b ≤ 16 <;> simp [h1, h2] at h ⊢ <;> (first | exact h | exact h.symm)
 clear h
 rcases hcase with ⟨h1, h2, rfl⟩ | ⟨h1, rfl⟩ | ⟨h1, h2, rfl⟩
 ·have g1 : (a : Int) ≤ 10 := by omega
  have g2 : (b : Int) ≤ 16 := by omega
  clear h1 h2
  go_enter Tryz.func16, Tryz.ntmps16
  go_wp2_with fail
  go_ret
  exact Ret.mk' rfl gw
 ·have g1 : ¬ (a : Int) ≤ 10 := by omega
  clear h1
  go_enter Tryz.func16, Tryz.ntmps16
  go_wp2_with fail
  go_ret
  exact Ret.mk' rfl gw
 ·have g1 : (a : Int) ≤ 10 := by omega
  have g2 : ¬ (b : Int) ≤ 16 := by omega
  clear h1 h2
  go_enter Tryz.func16, Tryz.ntmps16
  go_wp2_with fail
  go_ret
  exact Ret.mk' rfl gw
/-- The head, wherever the call has come. -/
theorem head_g {B : Nat} {w : World} (hkw : KwAt w B) (hB : B ≤ w.heap.size) (htb : TabP w) : ∀ W, Grew w W → Calls Tryz.prog 12 #[] W (Ret W (.bool true)) :=
 fun W hg => head_v B W (hkw.keep (old_cell_lt hg hB)) (Nat.le_trans hB hg.below.size) (htb.up hg)
end Go.Proofs.YtfeccolljfkejaaGreatDoor
