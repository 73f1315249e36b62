/- The law RuleLayout, walked. -/
import Derived.Test.YtfeccolljfkejaaGreatDoorRbL
import Derived.Test.YtfeccolljfkejaaGreatDoorRpL
import Derived.Laws.IdiomStrings
set_option linter.unusedSimpArgs false
set_option linter.unusedVariables false
set_option maxHeartbeats 16000000
set_option maxRecDepth 100000
namespace Go.Proofs.YtfeccolljfkejaaGreatDoor
open Go.RowKit Go.Sort
attribute [local go_sem] Steady steadyUpon
attribute [local go_sem ↓] hs_dr lt_add_r lt_add_r2 lt_add_r3 lt_add_r4 lt_add_r5 lt_add_r6
attribute [local go_sem] cell?_gd frozen?_gd setCell_gd size_grow tape_grow cell?_grow' frozen?_grow' setCell_grow' grow_grow grow_dr grow_drew dr_dr dr_drew drew_dr dr_alloc dr_setCell dr_cell dr_frozen dr_tape dr_drawn
attribute [local irreducible] wpSteady
def encB (b : Bool) : List Value := [.bool b]
theorem encB_len (b : Bool) : (encB b).length = 1 := rfl
theorem boolAt {w : World} {B : Nat} {A : Option Addr} {bs : List Bool} {k : Nat} {x : Bool} (h : Rd w B 1 A (bs.map encB)) (hx : bs[k]? = some x) : ∃ b off, Hid (A = some ⟨b, off, none⟩) ∧ b < B ∧ w.cell? ⟨b, off + k, none⟩ = some (.bool x) := by
 obtain ⟨b, off, hA, hb, hc⟩ := h.at_ (k := k) (x := encB x) (by rw [List.getElem?_map, hx]; rfl)
 refine ⟨b, off, hA, hb, ?_⟩
 have := hc 0 _ rfl
 rwa [Nat.mul_one] at this
/-- A string of one byte, made of a row of one byte. -/
theorem byte_str {t1 t2 e : TypeId} (h1 : Tryz.prog.underlying t1 = some (.slice e)) (h2 : Tryz.prog.underlying e = some (.int .u8)) (h3 : Tryz.prog.underlying t2 = some .string) (c : UInt8) (n : Int) (hn : n = (c.toNat : Int)) (w : World) (b cp : Nat) (h : w.cell? ⟨b, 0, none⟩ = some (.int .u8 n)) :
  (convert t1 t2 (.slice (some ⟨b, 0, none⟩) 1 cp)).run Tryz.prog w = .ok (.string ⟨#[c]⟩) w := by
 have := run_convert_bytes_back (P := Tryz.prog) w t1 t2 e ⟨b, 0, none⟩ cp [c] h1 h2 h3 (fun j hj => by
  have : j = 0 := by simpa using hj
  subst this
  rw [add_at]
  show w.cell? ⟨b, 0 + 0, none⟩ = some (.int .u8 (c.toNat : Int))
  rw [← hn]
  exact h)
 exact this
/-- What stands of a string as a row of bytes. -/
def BRow (s : ByteArray) (B : Nat) (W : World) : Prop := ∀ j (hj : j < s.data.toList.length), W.cell? ⟨B, j, none⟩ = some (.int .u8 ((s.data.toList[j]).toNat : Int))
theorem BRow.new (s : ByteArray) (w : World) (cp : Nat) (e : TypeId) (f : Nat × Nat) : BRow s w.heap.size (w.alloc (.cells (bytesRow s cp) e f)) := by
 intro j hj
 have hj' : j < s.data.size := by simpa using hj
 have h := bytesRow_at s cp j hj'
 have hh : (w.alloc (.cells (bytesRow s cp) e f)).heap[w.heap.size]? = some (.cells (bytesRow s cp) e f) := heap_alloc_new _ _
 rw [cell_of_row _ _ _ _ _ _ hh, h]
 simp
theorem BRow.up {s : ByteArray} {B : Nat} {W W' : World} (h : BRow s B W) (hB : B < W.heap.size) (hg : Grew W W') : BRow s B W' := fun j hj => (old_cell hg B j hB).trans (h j hj)
abbrev gW : UInt8 → List UInt8 := fun c => if c = 32 then [32, 32] else [c]
abbrev gL : UInt8 → List UInt8 := fun c => if c = 32 then [10] else [c]
theorem flat_take {g : UInt8 → List UInt8} {l : List UInt8} {k : Nat} {c : UInt8} (h : l[k]? = some c) : (l.take (k + 1)).flatMap g = (l.take k).flatMap g ++ g c := by
 rw [List.take_add_one, List.flatMap_append, h]
 simp
theorem one_list (c : UInt8) : (⟨#[c]⟩ : ByteArray).data.toList = [c] := rfl
theorem one_size (c : UInt8) : (⟨#[c]⟩ : ByteArray).size = 1 := rfl
theorem size_of {s : ByteArray} {l : List UInt8} (h : s.data.toList = l) : s.size = l.length := by rw [← h, ba_len]
theorem flat_len {g : UInt8 → List UInt8} (m : Nat) (hg : ∀ c, (g c).length ≤ m) : ∀ l : List UInt8, (l.flatMap g).length ≤ l.length * m
 | [] => by simp
 | c :: l => by
  rw [List.flatMap_cons, List.length_append, List.length_cons, Nat.succ_mul]
  have := flat_len m hg l
  have := hg c
  omega
theorem gW_len (c : UInt8) : (gW c).length ≤ 2 := by unfold gW; split <;> simp
theorem gL_len (c : UInt8) : (gL c).length ≤ 1 := by unfold gL; split <;> simp
theorem ruleLayout_row (s t : ByteArray) (bs : List Bool) (A : Option Addr) (c : Nat) (w : World) (_hs : s.size ≤ maxLen) (_ht : t.size ≤ maxLen) (hr : Rd w w.heap.size 1 A (bs.map encB)) (hc : bs.length ≤ 1000000000000000) (hl : KwAt w w.heap.size ∧ TabP w) :
  Calls Tryz.prog 4 #[.string s, .string t, .slice A bs.length c] w (Ret w (.bool true)) := by
 have hm := hmix
 have HL := hide hl
 have HH := hide (head_g hl.1 (Nat.le_refl _) hl.2)
 have HR := hide hr
 obtain ⟨⟨x, xa, xe⟩, hps⟩ : ∃ x, parseOf s = x := ⟨_, rfl⟩
 obtain ⟨⟨y, ya, ye⟩, hpt⟩ : ∃ x, parseOf t = x := ⟨_, rfl⟩
 have hxl : x.length ≤ 40 := by have := parse_le (s := s); rw [hps] at this; exact this
 have hyl : y.length ≤ 40 := by have := parse_le (s := t); rw [hpt] at this; exact this
 have hx0 : xe = 0 → xa = 0 := by have := parse_at0 (s := s); rw [hps] at this; exact this
 have hy0 : ye = 0 → ya = 0 := by have := parse_at0 (s := t); rw [hpt] at this; exact this
 have HPS := hide hps
 have HPT := hide hpt
 have HX0 := hide hx0
 have HY0 := hide hy0
 have ks := hide (fun W (hg : Grew w W) => parse_g hl s hps W hg)
 have kt := hide (fun W (hg : Grew w W) => parse_g hl t hpt W hg)
 have hcase : xe ≠ 0 ∨ (xe = 0 ∧ ye ≠ 0) ∨ (xe = 0 ∧ ye = 0 ∧ 1000 < s.size) ∨ (xe = 0 ∧ ye = 0 ∧ ¬ 1000 < s.size ∧ 1000 < t.size) ∨ (xe = 0 ∧ ye = 0 ∧ ¬ 1000 < s.size ∧ ¬ 1000 < t.size ∧ 20 < bs.length) ∨ (xe = 0 ∧ ye = 0 ∧ ¬ 1000 < s.size ∧ ¬ 1000 < t.size ∧ ¬ 20 < bs.length) := by omega
 have HC := hide hcase
 clear hl hr hps hpt hx0 hy0 hcase
 go_enter Tryz.func4, Tryz.ntmps4
 go_wp2_with (go_at_call 12; with_reducible refine crv (HH.out _ gw) fun _ _ => ?_; dsimp only)
 refine (ks.out _ gw).mono ?_
 rintro e W1 ⟨A1, c1, rfl, hrx, hg⟩
 have HG1 := hide (Grew.trans gw hg : Grew w W1)
 have HX := hide hrx
 clear hg hrx ks HH
 dsimp only
 go_wp2_with fail
 refine (kt.out _ (HG1.out.trans gw)).mono ?_
 rintro e W2 ⟨A2, c2, rfl, hry, hg⟩
 have HG12 := hide (Grew.trans gw hg : Grew W1 W2)
 have HG2 := hide (HG1.out.trans HG12.out)
 have HX2 := hide (HX.out.up HG12.out)
 have HY2 := hide hry
 clear hg hry kt HX
 dsimp only
 rcases HC.out with h | ⟨rfl, h⟩ | ⟨rfl, rfl, h⟩ | ⟨rfl, rfl, h1, h⟩ | ⟨rfl, rfl, h1, h2, h⟩ | ⟨rfl, rfl, h1, h2, h3⟩
 ·have e1 : (xe != 0) = true := by simpa using h
  have e2 : (xe == 0) = false := by simpa using h
  clear h
  go_wp2_with fail
  go_ret
  exact Ret.mk' rfl (HG2.out.trans gw)
 ·have e1 : (ye != 0) = true := by simpa using h
  have e2 : (ye == 0) = false := by simpa using h
  clear h
  go_wp2_with fail
  go_ret
  exact Ret.mk' rfl (HG2.out.trans gw)
 ·have e1 : (1000 : Int) < (s.size : Int) := by omega
  clear h
  go_wp2_with fail
  go_ret
  exact Ret.mk' rfl (HG2.out.trans gw)
 ·have e1 : (1000 : Int) < (t.size : Int) := by omega
  have e2 : ¬ (1000 : Int) < (s.size : Int) := by omega
  clear h h1
  go_wp2_with fail
  go_ret
  exact Ret.mk' rfl (HG2.out.trans gw)
 ·have e1 : ¬ (1000 : Int) < (t.size : Int) := by omega
  have e2 : ¬ (1000 : Int) < (s.size : Int) := by omega
  have e3 : (20 : Int) < (bs.length : Int) := by omega
  clear h h1 h2
  go_wp2_with fail
  go_ret
  exact Ret.mk' rfl (HG2.out.trans gw)
 obtain rfl : xa = 0 := HX0.out rfl
 obtain rfl : ya = 0 := HY0.out rfl
 have e1 : ¬ (1000 : Int) < (t.size : Int) := by omega
 have e2 : ¬ (1000 : Int) < (s.size : Int) := by omega
 have e3 : ¬ (20 : Int) < (bs.length : Int) := by omega
 go_wp2_with fail
 clear HC HX0 HY0 e1 e2 e3
 go_loopw [14, 68] (fun g i wr => ∃ (k : Nat) (G : ByteArray), k ≤ bs.length ∧ i = .int .i64 k ∧ g = .string G ∧ G.size = k ∧ Grew W2 wr ∧ AppG (∀ c ∈ G.data.toList, isBl (c.toNat : Int) = true)) (fun _ i _ => bs.length - (intOf i).toNat)
 case atStart => exact ⟨0, ⟨#[]⟩, by omega, rfl, rfl, rfl, gw, show ∀ c ∈ ([] : List UInt8), _ from fun c hc => by cases hc⟩
 case round =>
  obtain ⟨k, G, hk, rfl, rfl, hGk, hg, hbl⟩ := hrel
  have HG := hide hg
  have HBL := hide hbl.stop
  have HGK := hide hGk
  clear hg hbl
  by_cases hlt : k < bs.length
  ·obtain ⟨l, hl⟩ : ∃ l, bs[k]? = some l := ⟨_, List.getElem?_eq_getElem hlt⟩
   obtain ⟨b, off, hA, hb, g0⟩ := boolAt (HR.out.up (HG2.out.trans HG.out)) hl
   have hix := idx_run (cap := c) Tryz.underlying31 Tryz.sizeOf4 hA.out hlt
   rw [Nat.mul_one] at hix
   have z1 : ¬ 9223372036854775807 < G.size + 1 := by omega
   have z2 : G.size + 1 ≤ 9223372036854775807 := by omega
   have z3 : ¬ 9223372036854775807 < G.size + (⟨#[10]⟩ : ByteArray).size := by rw [one_size]; omega
   have z4 : ¬ 9223372036854775807 < G.size + (⟨#[32]⟩ : ByteArray).size := by rw [one_size]; omega
   clear hl hA hGk
   cases l
   ·go_wp2_with fail
    go_roundw
    case rel => exact ⟨k + 1, G ++ (⟨#[32]⟩ : ByteArray), by omega, by go_num, rfl, by rw [ByteArray.size_append, one_size, HGK.out], HG.out.trans gw, show ∀ c ∈ (G ++ (⟨#[32]⟩ : ByteArray)).data.toList, isBl (c.toNat : Int) = true from fun c hc => by
     rw [ba_app, List.mem_append] at hc
     rcases hc with hc | hc
     ·exact HBL.out c hc
     ·rw [one_list, List.mem_singleton] at hc; subst hc; rfl⟩
    case measure => simp [intOf]; omega
   ·go_wp2_with fail
    go_roundw
    case rel => exact ⟨k + 1, G ++ (⟨#[10]⟩ : ByteArray), by omega, by go_num, rfl, by rw [ByteArray.size_append, one_size, HGK.out], HG.out.trans gw, show ∀ c ∈ (G ++ (⟨#[10]⟩ : ByteArray)).data.toList, isBl (c.toNat : Int) = true from fun c hc => by
     rw [ba_app, List.mem_append] at hc
     rcases hc with hc | hc
     ·exact HBL.out c hc
     ·rw [one_list, List.mem_singleton] at hc; subst hc; rfl⟩
    case measure => simp [intOf]; omega
  ·obtain rfl : k = bs.length := by omega
   have hsz : G.size ≤ 20 := by omega
   have hlay := lay1 (u := G ++ s ++ G ++ t ++ G) HPS.out HPT.out (by omega) (by omega) (by rw [ba_len]; exact hsz) HBL.out (by simp only [ba_app, List.append_assoc])
   obtain ⟨⟨p, pa, pe⟩, hpu⟩ : ∃ x, parseOf (G ++ s ++ G ++ t ++ G) = x := ⟨_, rfl⟩
   have ku := hide (fun W (hg : Grew w W) => parse_g HL.out _ hpu W hg)
   rw [hpu] at hlay
   dsimp only at hlay
   have HLAY := hide hlay
   have q1 : ¬ 9223372036854775807 < G.size + s.size := by omega
   have q2 : ¬ 9223372036854775807 < G.size + s.size + G.size := by omega
   have q3 : ¬ 9223372036854775807 < G.size + s.size + G.size + t.size := by omega
   have q4 : ¬ 9223372036854775807 < G.size + s.size + G.size + t.size + G.size := by omega
   have q5 : ¬ 9223372036854775807 < (G ++ s).size + G.size := by rw [ByteArray.size_append]; omega
   have q6 : ¬ 9223372036854775807 < (G ++ s ++ G).size + t.size := by rw [ByteArray.size_append, ByteArray.size_append]; omega
   have q7 : ¬ 9223372036854775807 < (G ++ s ++ G ++ t).size + G.size := by rw [ByteArray.size_append, ByteArray.size_append, ByteArray.size_append]; omega
   have q8 : G.size + s.size ≤ 9223372036854775807 := by omega
   have q9 : G.size + s.size + G.size ≤ 9223372036854775807 := by omega
   have q10 : G.size + s.size + G.size + t.size ≤ 9223372036854775807 := by omega
   have q11 : G.size + s.size + G.size + t.size + G.size ≤ 9223372036854775807 := by omega
   clear hlay hpu hGk hk
   go_wp2_with fail
   refine (ku.out _ (HG2.out.trans (HG.out.trans gw))).mono ?_
   rintro e W3 ⟨A3, c3, rfl, hrp, hg⟩
   have HG23 := hide (HG.out.trans (Grew.trans gw hg) : Grew W2 W3)
   have HG3 := hide (HG2.out.trans HG23.out)
   have HX3 := hide ((HX2.out.up HG23.out).reads encR_len (by omega))
   have HP3 := hide hrp
   clear hg hrp ku HG q1 q2 q3 q4 q5 q6 q7 q8 q9 q10 q11
   dsimp only
   obtain ⟨i0, hi, hz0, hz1, hz2⟩ := ruInfo_parts
   go_wp2_with (at_builtin; refine AppG3.stop ?_)
   refine AppG3.go ?_
   have hlit := World.ownsRow_lit (base := W3.heap.size) (e := 36) (size := 3) W3 #[] 0 (Nat.le_refl _) (by unfold maxLen; omega) rfl
   refine wpList_append_any _ rfl (.tmp 92) (.tmp 93) _ rfl W3.heap.size 36 i0 _ 3 24 Tryz.underlying22 hi hz0 hz1 hz2 rfl (by omega) _ 0 [] rfl hlit W3.heap.size A1 x.length c1 (x.flatMap encR) rfl (HX3.out.alloc (Nat.le_refl _) _) (ru_one _) (by simp only [maxLen]; omega) (by omega) (by simp) ?_
   intro v' w1 hown1 hg1 _
   rw [Nat.zero_add, List.nil_append] at hown1
   have hb0 : Below W3.heap.size W3 (W3.alloc (.cells #[] 36)) := (Grew.alloc (Grew.refl W3) _).below
   have hb1 : Below W3.heap.size W3 w1 := hb0.grown hg1 hb0.size fun q hq => (hlit.lt q hq).1
   have HO := hide hown1
   have HB1 := hide hb1
   have HY3 := hide ((HY2.out.up (HG23.out.trans (Grew.of_below hb1))).reads encR_len (by omega))
   clear hlit hown1 hg1 hb0 hb1
   go_wp2_with (at_builtin; refine AppG3.stop ?_)
   refine AppG3.go ?_
   refine wpList_append_any _ rfl (.tmp 94) (.tmp 95) _ rfl W3.heap.size 36 i0 _ 3 24 Tryz.underlying22 hi hz0 hz1 hz2 rfl (by omega) _ x.length (x.flatMap encR) rfl HO.out w1.heap.size A2 y.length c2 (y.flatMap encR) rfl HY3.out (ru_one _) (by simp only [maxLen]; omega) (by omega) HB1.out.size ?_
   intro v2 w2 hown2 hg2 _
   have hb2 : Below W3.heap.size W3 w2 := HB1.out.grown hg2 HB1.out.size fun q hq => (HO.out.lt q hq).1
   rw [← List.flatMap_append, ← List.length_append] at hown2
   obtain ⟨cs, hcs⟩ : ∃ cs, x ++ y = cs := ⟨_, rfl⟩
   rw [hcs] at hown2
   have hcl : cs.length = x.length + y.length := by rw [← hcs, List.length_append]
   have HLY2 : Hid ((cs.length ≤ 40 → (p, pa, pe) = (cs, 0, 0)) ∧ (40 < cs.length → p = [] ∧ pe = 2)) := hide (by rw [hcl, ← hcs]; exact HLAY.out)
   clear HLAY hcs
   obtain ⟨A4, c4, rfl, hc4, hrd2⟩ := Rd.of_own (f := encR) encR_len hown2 rfl
   have HRD2 := hide hrd2
   have HG34 : Hid (Grew W3 w2) := hide (Grew.of_below hb2)
   have HCL := hide hcl
   clear hown2 hg2 hb2 hrd2 hc4 HO HB1 HX3 HY3 hi hz0 hz1 hz2 hcl
   have hcs8 : cs.length ≤ 80 := by have := HCL.out; omega
   obtain ⟨cp, ff, hcv⟩ : ∃ (cp : World → Nat) (ff : World → Nat × Nat), ∀ W : World, (convert 9 32 (.string s)).run Tryz.prog W = .ok (.slice (some ⟨W.heap.size, 0, none⟩) s.size (cp W)) (W.drew.alloc (.cells (bytesRow s (cp W)) 5 (ff W))) :=
    ⟨fun W => grownCap W s.size 0 5, _, fun W => run_bytes_of_string (P := Tryz.prog) W 9 32 5 s Tryz.underlying9 Tryz.underlying32 Tryz.underlying5⟩
   by_cases h40 : 40 < cs.length
   ·obtain ⟨rfl, rfl⟩ := HLY2.out.2 h40
    have h40' : (40 : Int) < (cs.length : Int) := by omega
    go_wp2_with fail
    refine wp_name ?_
    intro W5 hW
    have hgV : Grew w2 W5 := by rw [← hW]; exact gw
    have HBR : Hid (BRow s (w2).heap.size W5) := hide (by rw [← hW]; exact (BRow.new s (w2).drew _ _ _))
    have HBL : Hid ((w2).heap.size < W5.heap.size) := hide (by rw [← hW]; simp)
    have HG5 : Hid (Grew w W5) := hide (HG3.out.trans (HG34.out.trans hgV))
    have HX5 : Hid (Rd W5 W5.heap.size 3 A1 (x.map encR)) := hide (HX2.out.up (HG23.out.trans (HG34.out.trans hgV)))
    clear hW h40' h40 hgV hcv
    go_loopw [21, 22, 123] (fun wd ln i wr => ∃ (k : Nat) (D L : ByteArray), k ≤ s.size ∧ i = .int .i64 k ∧ wd = .string D ∧ ln = .string L ∧ Grew W5 wr ∧ AppG (D.data.toList = (s.data.toList.take k).flatMap gW ∧ L.data.toList = (s.data.toList.take k).flatMap gL)) (fun _ _ i _ => s.size - (intOf i).toNat)
    case atStart => exact ⟨0, ⟨#[]⟩, ⟨#[]⟩, by omega, rfl, rfl, rfl, gw, show _ ∧ _ from ⟨rfl, rfl⟩⟩
    case round =>
     obtain ⟨k, D, L, hk, rfl, rfl, rfl, hg, hdl⟩ := hrel
     have HG := hide hg
     have HD := hide hdl.stop.1
     have HLL := hide hdl.stop.2
     have hds : D.size ≤ k * 2 := by
      rw [size_of HD.out]
      refine Nat.le_trans (flat_len 2 gW_len _) (Nat.mul_le_mul_right 2 ?_)
      rw [List.length_take]; exact Nat.min_le_left _ _
     have hls : L.size ≤ k * 1 := by
      rw [size_of HLL.out]
      refine Nat.le_trans (flat_len 1 gL_len _) (Nat.mul_le_mul_right 1 ?_)
      rw [List.length_take]; exact Nat.min_le_left _ _
     clear hg hdl
     by_cases hlt : k < s.size
     ·have hkl : k < s.data.toList.length := by rw [ba_len]; exact hlt
      obtain ⟨cb, hcb⟩ : ∃ cb, s.data.toList[k] = cb := ⟨_, rfl⟩
      have hcq : s.data.toList[k]? = some cb := by rw [List.getElem?_eq_getElem hkl, hcb]
      have g0 := (HBR.out.up HBL.out HG.out) k hkl
      rw [hcb] at g0
      have hbb : (w2).heap.size < wr.heap.size := Nat.lt_of_lt_of_le HBL.out HG.out.below.size
      have hix := idx_run (cap := cp w2) (len := s.size) (b := (w2).heap.size) (off := 0) (A := some ⟨(w2).heap.size, 0, none⟩) Tryz.underlying32 Tryz.sizeOf5 rfl hlt
      simp only [Nat.zero_add, Nat.mul_one] at hix
      have HTW := hide (flat_take (g := gW) hcq)
      have HTL := hide (flat_take (g := gL) hcq)
      have z1 : ¬ 9223372036854775807 < D.size + 1 := by omega
      have z2 : D.size + 1 ≤ 9223372036854775807 := by omega
      have z3 : ¬ 9223372036854775807 < L.size + 1 := by omega
      have z4 : L.size + 1 ≤ 9223372036854775807 := by omega
      have z5 : ¬ 9223372036854775807 < D.size + 1 + 1 := by omega
      have z6 : D.size + 1 + 1 ≤ 9223372036854775807 := by omega
      have z7 : ¬ 9223372036854775807 < L.size + (⟨#[10]⟩ : ByteArray).size := by rw [one_size]; omega
      have z8 : ¬ 9223372036854775807 < D.size + (⟨#[32]⟩ : ByteArray).size := by rw [one_size]; omega
      have z9 : ¬ 9223372036854775807 < D.size + (⟨#[cb]⟩ : ByteArray).size := by rw [one_size]; omega
      have z10 : ¬ 9223372036854775807 < L.size + (⟨#[cb]⟩ : ByteArray).size := by rw [one_size]; omega
      have z11 : ¬ 9223372036854775807 < (D ++ ⟨#[32]⟩).size + (⟨#[32]⟩ : ByteArray).size := by rw [ByteArray.size_append, one_size]; omega
      have z12 : ¬ 9223372036854775807 < D.size + (⟨#[32]⟩ : ByteArray).size + (⟨#[32]⟩ : ByteArray).size := by rw [one_size]; omega
      have z13 : ¬ 9223372036854775807 < D.size + 1 + (⟨#[32]⟩ : ByteArray).size := by rw [one_size]; omega
      clear hcb hcq hds hls hkl
      by_cases h32 : cb = 32
      ·subst h32
       have g0 : wr.cell? ⟨(w2).heap.size, k, none⟩ = some (.int .u8 32) := g0
       have hs1 := byte_str Tryz.underlying32 Tryz.underlying5 Tryz.underlying9 32 32 rfl
       have hs2 := byte_str Tryz.underlying32 Tryz.underlying5 Tryz.underlying9 10 10 rfl
       go_wp2_with fail
       go_roundw
       case rel => exact ⟨k + 1, D ++ (⟨#[32]⟩ : ByteArray) ++ (⟨#[32]⟩ : ByteArray), L ++ (⟨#[10]⟩ : ByteArray), by omega, by go_num, rfl, rfl, HG.out.trans gw, show _ ∧ _ from ⟨by rw [HTW.out, ba_app, ba_app, HD.out, one_list, List.append_assoc]; rfl, by rw [HTL.out, ba_app, HLL.out, one_list]; rfl⟩⟩
       case measure => simp [intOf]; omega
      ·have hn1 : ¬ (cb.toNat : Int) = 32 := fun e => h32 (UInt8.toNat_inj.1 (by show cb.toNat = 32; omega))
       have hn2 : ((cb.toNat : Int) == 32) = false := by simpa using hn1
       have hs1 := byte_str Tryz.underlying32 Tryz.underlying5 Tryz.underlying9 cb (cb.toNat : Int) rfl
       have HN := hide h32
       clear h32
       go_wp2_with fail
       go_roundw
       case rel => exact ⟨k + 1, D ++ (⟨#[cb]⟩ : ByteArray), L ++ (⟨#[cb]⟩ : ByteArray), by omega, by go_num, rfl, rfl, HG.out.trans gw, show _ ∧ _ from ⟨by rw [HTW.out, ba_app, HD.out, one_list, show gW cb = [cb] from if_neg HN.out], by rw [HTL.out, ba_app, HLL.out, one_list, show gL cb = [cb] from if_neg HN.out]⟩⟩
       case measure => simp [intOf]; omega
     ·obtain rfl : k = s.size := by omega
      have hd := HD.out
      have hl := HLL.out
      rw [List.take_of_length_le (by rw [ba_len]; exact Nat.le_refl _)] at hd hl
      have ku := hide (fun W (hg : Grew w W) => parse_g HL.out D (lay2 gm_wide HPS.out (by omega) (by omega) hd) W hg)
      have kv := hide (fun W (hg : Grew w W) => parse_g HL.out L (lay2 gm_lines HPS.out (by omega) (by omega) hl) W hg)
      clear hd hl hds hls hk hlt
      go_wp2_with fail
      refine (ku.out _ (HG5.out.trans (HG.out.trans gw))).mono ?_
      rintro e W6 ⟨A6, c6, rfl, hru, hg⟩
      have HG6 := hide (HG.out.trans (Grew.trans gw hg) : Grew W5 W6)
      have HU := hide hru
      clear hg hru ku
      dsimp only
      go_wp2_with fail
      refine (kv.out _ (HG5.out.trans (HG6.out.trans gw))).mono ?_
      rintro e W7 ⟨A7, c7, rfl, hrv, hg⟩
      have HG67 := hide (Grew.trans gw hg : Grew W6 W7)
      have HV := hide hrv
      clear hg hrv kv
      dsimp only
      go_wp2_with fail
      refine (ruSame_t x _ _ _ _ _ (HU.out.up (HG67.out.trans gw)) (HX5.out.up (HG6.out.trans (HG67.out.trans gw))) (by omega)).mono ?_
      rintro e W8 ⟨rfl, hg⟩
      have HG78 := hide (Grew.trans gw hg : Grew W7 W8)
      clear hg
      dsimp only
      go_wp2_with fail
      refine (ruSame_t x _ _ _ _ _ (HV.out.up (HG78.out.trans gw)) (HX5.out.up (HG6.out.trans (HG67.out.trans (HG78.out.trans gw)))) (by omega)).mono ?_
      rintro e W9 ⟨rfl, hg⟩
      have HG79 := hide (HG78.out.trans (Grew.trans gw hg) : Grew W7 W9)
      clear hg
      dsimp only
      go_wp2_with fail
      go_ret
      exact Ret.mk' rfl (HG5.out.trans (HG6.out.trans (HG67.out.trans (HG79.out.trans gw))))
   ·obtain ⟨rfl, rfl, rfl⟩ : p = cs ∧ pa = 0 ∧ pe = 0 := by
     have := HLY2.out.1 (by omega)
     injection this with a1 a2
     injection a2 with a2 a3
     exact ⟨a1, a2, a3⟩
    have h40' : ¬ (40 : Int) < (p.length : Int) := by omega
    go_wp2_with fail
    refine (ruSame_t p _ _ _ _ _ (HP3.out.up (HG34.out.trans gw)) (HRD2.out.up gw) (by omega)).mono ?_
    rintro e W4 ⟨rfl, hg⟩
    have HG4 := hide (HG34.out.trans (Grew.trans gw hg) : Grew W3 W4)
    clear hg
    dsimp only
    go_wp2_with fail
    refine wp_name ?_
    intro W5 hW
    have hgV : Grew W4 W5 := by rw [← hW]; exact gw
    have HBR : Hid (BRow s (W4).heap.size W5) := hide (by rw [← hW]; exact (BRow.new s (W4).drew _ _ _))
    have HBL : Hid ((W4).heap.size < W5.heap.size) := hide (by rw [← hW]; simp)
    have HG5 : Hid (Grew w W5) := hide (HG3.out.trans (HG4.out.trans hgV))
    have HX5 : Hid (Rd W5 W5.heap.size 3 A1 (x.map encR)) := hide (HX2.out.up (HG23.out.trans (HG4.out.trans hgV)))
    clear hW h40' h40 hgV hcv
    go_loopw [21, 22, 123] (fun wd ln i wr => ∃ (k : Nat) (D L : ByteArray), k ≤ s.size ∧ i = .int .i64 k ∧ wd = .string D ∧ ln = .string L ∧ Grew W5 wr ∧ AppG (D.data.toList = (s.data.toList.take k).flatMap gW ∧ L.data.toList = (s.data.toList.take k).flatMap gL)) (fun _ _ i _ => s.size - (intOf i).toNat)
    case atStart => exact ⟨0, ⟨#[]⟩, ⟨#[]⟩, by omega, rfl, rfl, rfl, gw, show _ ∧ _ from ⟨rfl, rfl⟩⟩
    case round =>
     obtain ⟨k, D, L, hk, rfl, rfl, rfl, hg, hdl⟩ := hrel
     have HG := hide hg
     have HD := hide hdl.stop.1
     have HLL := hide hdl.stop.2
     have hds : D.size ≤ k * 2 := by
      rw [size_of HD.out]
      refine Nat.le_trans (flat_len 2 gW_len _) (Nat.mul_le_mul_right 2 ?_)
      rw [List.length_take]; exact Nat.min_le_left _ _
     have hls : L.size ≤ k * 1 := by
      rw [size_of HLL.out]
      refine Nat.le_trans (flat_len 1 gL_len _) (Nat.mul_le_mul_right 1 ?_)
      rw [List.length_take]; exact Nat.min_le_left _ _
     clear hg hdl
     by_cases hlt : k < s.size
     ·have hkl : k < s.data.toList.length := by rw [ba_len]; exact hlt
      obtain ⟨cb, hcb⟩ : ∃ cb, s.data.toList[k] = cb := ⟨_, rfl⟩
      have hcq : s.data.toList[k]? = some cb := by rw [List.getElem?_eq_getElem hkl, hcb]
      have g0 := (HBR.out.up HBL.out HG.out) k hkl
      rw [hcb] at g0
      have hbb : (W4).heap.size < wr.heap.size := Nat.lt_of_lt_of_le HBL.out HG.out.below.size
      have hix := idx_run (cap := cp W4) (len := s.size) (b := (W4).heap.size) (off := 0) (A := some ⟨(W4).heap.size, 0, none⟩) Tryz.underlying32 Tryz.sizeOf5 rfl hlt
      simp only [Nat.zero_add, Nat.mul_one] at hix
      have HTW := hide (flat_take (g := gW) hcq)
      have HTL := hide (flat_take (g := gL) hcq)
      have z1 : ¬ 9223372036854775807 < D.size + 1 := by omega
      have z2 : D.size + 1 ≤ 9223372036854775807 := by omega
      have z3 : ¬ 9223372036854775807 < L.size + 1 := by omega
      have z4 : L.size + 1 ≤ 9223372036854775807 := by omega
      have z5 : ¬ 9223372036854775807 < D.size + 1 + 1 := by omega
      have z6 : D.size + 1 + 1 ≤ 9223372036854775807 := by omega
      have z7 : ¬ 9223372036854775807 < L.size + (⟨#[10]⟩ : ByteArray).size := by rw [one_size]; omega
      have z8 : ¬ 9223372036854775807 < D.size + (⟨#[32]⟩ : ByteArray).size := by rw [one_size]; omega
      have z9 : ¬ 9223372036854775807 < D.size + (⟨#[cb]⟩ : ByteArray).size := by rw [one_size]; omega
      have z10 : ¬ 9223372036854775807 < L.size + (⟨#[cb]⟩ : ByteArray).size := by rw [one_size]; omega
      have z11 : ¬ 9223372036854775807 < (D ++ ⟨#[32]⟩).size + (⟨#[32]⟩ : ByteArray).size := by rw [ByteArray.size_append, one_size]; omega
      have z12 : ¬ 9223372036854775807 < D.size + (⟨#[32]⟩ : ByteArray).size + (⟨#[32]⟩ : ByteArray).size := by rw [one_size]; omega
      have z13 : ¬ 9223372036854775807 < D.size + 1 + (⟨#[32]⟩ : ByteArray).size := by rw [one_size]; omega
      clear hcb hcq hds hls hkl
      by_cases h32 : cb = 32
      ·subst h32
       have g0 : wr.cell? ⟨(W4).heap.size, k, none⟩ = some (.int .u8 32) := g0
       have hs1 := byte_str Tryz.underlying32 Tryz.underlying5 Tryz.underlying9 32 32 rfl
       have hs2 := byte_str Tryz.underlying32 Tryz.underlying5 Tryz.underlying9 10 10 rfl
       go_wp2_with fail
       go_roundw
       case rel => exact ⟨k + 1, D ++ (⟨#[32]⟩ : ByteArray) ++ (⟨#[32]⟩ : ByteArray), L ++ (⟨#[10]⟩ : ByteArray), by omega, by go_num, rfl, rfl, HG.out.trans gw, show _ ∧ _ from ⟨by rw [HTW.out, ba_app, ba_app, HD.out, one_list, List.append_assoc]; rfl, by rw [HTL.out, ba_app, HLL.out, one_list]; rfl⟩⟩
       case measure => simp [intOf]; omega
      ·have hn1 : ¬ (cb.toNat : Int) = 32 := fun e => h32 (UInt8.toNat_inj.1 (by show cb.toNat = 32; omega))
       have hn2 : ((cb.toNat : Int) == 32) = false := by simpa using hn1
       have hs1 := byte_str Tryz.underlying32 Tryz.underlying5 Tryz.underlying9 cb (cb.toNat : Int) rfl
       have HN := hide h32
       clear h32
       go_wp2_with fail
       go_roundw
       case rel => exact ⟨k + 1, D ++ (⟨#[cb]⟩ : ByteArray), L ++ (⟨#[cb]⟩ : ByteArray), by omega, by go_num, rfl, rfl, HG.out.trans gw, show _ ∧ _ from ⟨by rw [HTW.out, ba_app, HD.out, one_list, show gW cb = [cb] from if_neg HN.out], by rw [HTL.out, ba_app, HLL.out, one_list, show gL cb = [cb] from if_neg HN.out]⟩⟩
       case measure => simp [intOf]; omega
     ·obtain rfl : k = s.size := by omega
      have hd := HD.out
      have hl := HLL.out
      rw [List.take_of_length_le (by rw [ba_len]; exact Nat.le_refl _)] at hd hl
      have ku := hide (fun W (hg : Grew w W) => parse_g HL.out D (lay2 gm_wide HPS.out (by omega) (by omega) hd) W hg)
      have kv := hide (fun W (hg : Grew w W) => parse_g HL.out L (lay2 gm_lines HPS.out (by omega) (by omega) hl) W hg)
      clear hd hl hds hls hk hlt
      go_wp2_with fail
      refine (ku.out _ (HG5.out.trans (HG.out.trans gw))).mono ?_
      rintro e W6 ⟨A6, c6, rfl, hru, hg⟩
      have HG6 := hide (HG.out.trans (Grew.trans gw hg) : Grew W5 W6)
      have HU := hide hru
      clear hg hru ku
      dsimp only
      go_wp2_with fail
      refine (kv.out _ (HG5.out.trans (HG6.out.trans gw))).mono ?_
      rintro e W7 ⟨A7, c7, rfl, hrv, hg⟩
      have HG67 := hide (Grew.trans gw hg : Grew W6 W7)
      have HV := hide hrv
      clear hg hrv kv
      dsimp only
      go_wp2_with fail
      refine (ruSame_t x _ _ _ _ _ (HU.out.up (HG67.out.trans gw)) (HX5.out.up (HG6.out.trans (HG67.out.trans gw))) (by omega)).mono ?_
      rintro e W8 ⟨rfl, hg⟩
      have HG78 := hide (Grew.trans gw hg : Grew W7 W8)
      clear hg
      dsimp only
      go_wp2_with fail
      refine (ruSame_t x _ _ _ _ _ (HV.out.up (HG78.out.trans gw)) (HX5.out.up (HG6.out.trans (HG67.out.trans (HG78.out.trans gw)))) (by omega)).mono ?_
      rintro e W9 ⟨rfl, hg⟩
      have HG79 := hide (HG78.out.trans (Grew.trans gw hg) : Grew W7 W9)
      clear hg
      dsimp only
      go_wp2_with fail
      go_ret
      exact Ret.mk' rfl (HG5.out.trans (HG6.out.trans (HG67.out.trans (HG79.out.trans gw))))
end Go.Proofs.YtfeccolljfkejaaGreatDoor
