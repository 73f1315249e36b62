/- Package rule: what a rule changes in a feature. -/
import Derived.Test.YtdoiaagajkabcaaGreatRuF
import Derived.Test.YtdoiaagajkabcaaGreatPov
set_option linter.unusedSimpArgs false
set_option linter.unusedVariables false
set_option maxHeartbeats 4000000
set_option maxRecDepth 100000
namespace Go.Proofs.YtdoiaagajkabcaaGreat
open Go.RowKit Go.Sort Go.Lib
attribute [local go_sem] Steady steadyUpon
attribute [local go_sem ↓] hs_dr lt_add_r lt_add_r2 lt_add_r3 lt_add_r4 lt_add_r5 lt_add_r6
attribute [local go_sem] cell?_gd frozen?_gd setCell_gd size_grow tape_grow cell?_grow' frozen?_grow' setCell_grow' grow_grow grow_dr grow_drew dr_dr dr_drew drew_dr dr_alloc dr_setCell dr_cell dr_frozen dr_tape dr_drawn
attribute [local irreducible] wpSteady
/-- A feature without the places of its lists. -/
def FV.bare (f : FV) : FV := { f with aA := none, ac := 0, sA := none, sc := 0 }
def changeF (o n : Int) (f : FV) : FV := if o = 2 then { f with dep := f.dep - f.dep % n } else if o = 4 then { f with rad := max f.rad n } else if o = 5 then { f with area := (rectOf (boxOf f.area).1).1, aA := none, ac := 0 } else f
/-- A feature's lists can be read, whatever is written in block g. -/
def FSt (w : World) (g : Nat) (f : FV) : Prop := ∀ w', w.grownBy w' (some g) → f.rd w' w'.heap.size
theorem gb_trans {w w1 w2 : World} {r : Option Nat} (h : w.grownBy w1 r) (k : w1.grownBy w2 r) : w.grownBy w2 r :=
 ⟨k.os.trans h.os, k.tape.trans h.tape, k.output.trans h.output, Nat.le_trans h.size k.size, fun b hb hne => (k.block b (Nat.lt_of_lt_of_le hb h.size) hne).trans (h.block b hb hne)⟩
theorem FSt.gb {w w1 : World} {g : Nat} {f : FV} (h : FSt w g f) (hg : w.grownBy w1 (some g)) : FSt w1 g f := fun w' k => h w' (gb_trans hg k)
theorem gb_below2 {w w' : World} {g B : Nat} (h : w.grownBy w' (some g)) (hB : B ≤ w.heap.size) (hg : B ≤ g) : Below B w w' :=
 ⟨h.os, h.tape, h.output, by have := h.size; omega, fun k hk => h.block k (by omega) (by intro e; injection e with e; omega)⟩
theorem FSt.of {w : World} {B g : Nat} {f : FV} (h : f.rd w B) (hB : B ≤ w.heap.size) (hg : B ≤ g) : FSt w g f := fun w' k => by
 have hb := gb_below2 k hB hg
 exact ⟨(h.area.below hb).mono (by have := k.size; omega), (h.secs.below hb).mono (by have := k.size; omega), h.la, h.ls, h.lc⟩
theorem FSt.rd {w : World} {g : Nat} {f : FV} (h : FSt w g f) : f.rd w w.heap.size := h w ((Grew.refl w).grownBy _)
def ChgP (W0 W : World) (base g cap : Nat) (cur : List FV) (i : Nat) (t : FV) (e : Ending) (w' : World) : Prop := e = .returned (.tuple #[]) ∧ ∃ f', w'.ownsRow base 52 9 (.slice (some ⟨g, 0, none⟩) cur.length cap) cur.length ((cur.set i f').flatMap FV.cells) ∧ W.grownBy w' (some g) ∧ f'.bare = t.bare ∧ FSt w' g f' ∧ Grew W0 w'
theorem FSt.same {w : World} {g : Nat} {f f' : FV} (h : FSt w g f) (e1 : f'.area = f.area) (e2 : f'.aA = f.aA) (e3 : f'.secs = f.secs) (e4 : f'.sA = f.sA) (e5 : f'.sc = f.sc) : FSt w g f' := fun w' k => by
 have := h w' k
 exact ⟨by rw [e1, e2]; exact this.area, by rw [e3, e4]; exact this.secs, by rw [e1]; exact this.la, by rw [e3]; exact this.ls, by rw [e3, e5]; exact this.lc⟩
theorem round_v (n : Int) (cur : List FV) (base g cap i : Nat) (W0 W : World) (hown : W.ownsRow base 52 9 (.slice (some ⟨g, 0, none⟩) cur.length cap) cur.length (cur.flatMap FV.cells)) (hi : i < cur.length) (hb : W0.heap.size ≤ base) (hg : Grew W0 W) (hs : FSt W g (fAt cur i)) (hn : 1 ≤ n ∧ n ≤ 1000) (hd : 0 ≤ (fAt cur i).dep ∧ (fAt cur i).dep ≤ 100000) :
  Calls Tryz.prog 130 #[.pointer (some ⟨g, i * 9, none⟩), .int .i64 n] W (ChgP W0 W base g cap cur i (changeF 2 n (fAt cur i))) := by
 have hm := hmix
 obtain ⟨fc, hf⟩ := ownAt hown rfl hi
 obtain ⟨lg1, lg2⟩ := hown.lt g rfl
 have d6 := fc.c6
 have hown2 := fun (x : Int) => dep_own hown hi x
 have hgg : W0.heap.size ≤ g := by omega
 have hs2 := fun (x : Int) => (hs.gb (gbf_set (v := .int .i64 x) (o := i * 9 + 6) ((Grew.refl W).grownBy (some g)))).same (f' := { fAt cur i with dep := x }) rfl rfl rfl rfl rfl
 have HOW := hide hown2
 have HS := hide hs2
 have HG := hide hg
 have hn0 : ¬ n = 0 := by omega
 obtain ⟨d, hdd⟩ : ∃ d, (fAt cur i).dep = d := ⟨_, rfl⟩
 have HD := hide hdd
 rw [hdd] at d6 hd
 have htm := Int.tmod_eq_emod_of_nonneg (a := d) (b := n) hd.1
 have hmb := Int.emod_nonneg d hn0
 have hmb2 := Int.emod_lt_of_pos d (show 0 < n by omega)
 clear hown hs fc hown2 hs2 hg hdd
 have hch : ({ fAt cur i with dep := d - d % n } : FV).bare = (changeF 2 n (fAt cur i)).bare := by
  unfold changeF
  rw [if_pos rfl, HD.out]
 have HC := hide hch
 obtain ⟨m, hm2⟩ : ∃ m, d % n = m := ⟨_, rfl⟩
 rw [hm2] at htm hmb hmb2 HC
 have hw : IntKind.i64.wrap (d - m) = d - m := by unfold IntKind.wrap; simp [IntKind.bits, IntKind.signed]; omega
 clear hch
 go_enter Tryz.func130, Tryz.ntmps130
 go_wp2_with fail
 refine wp_region_qas 11 [] [] hm (h := ?_)
 repeat (refine wpSteady_step (fun K hK => ?_); go_simp; refine hK _ ?_; clear hK K)
 refine rq0 fun nq osq => ?_
 try simp only [Act.put, setA]
 try dsimp only
 go_wp2_with fail
 go_end0
 exact ⟨rfl, { fAt cur i with dep := d - m }, fown_grew (HOW.out _) gw, gbf_grew (gbf_set ((Grew.refl W).grownBy _)) gw, HC.out, (HS.out _).gb (Grew.grownBy gw _), (gset HG.out hgg).trans gw⟩
theorem grow_v (n : Int) (cur : List FV) (base g cap i : Nat) (W0 W : World) (hown : W.ownsRow base 52 9 (.slice (some ⟨g, 0, none⟩) cur.length cap) cur.length (cur.flatMap FV.cells)) (hi : i < cur.length) (hb : W0.heap.size ≤ base) (hg : Grew W0 W) (hs : FSt W g (fAt cur i)) :
  Calls Tryz.prog 131 #[.pointer (some ⟨g, i * 9, none⟩), .int .i64 n] W (ChgP W0 W base g cap cur i (changeF 4 n (fAt cur i))) := by
 have hm := hmix
 obtain ⟨fc, hf⟩ := ownAt hown rfl hi
 obtain ⟨lg1, lg2⟩ := hown.lt g rfl
 have d4 := fc.c4
 have hown2 := fun (x : Int) => rad_own hown hi x
 have hgg : W0.heap.size ≤ g := by omega
 have hs2 := fun (x : Int) => (hs.gb (gbf_set (v := .int .i64 x) (o := i * 9 + 4) ((Grew.refl W).grownBy (some g)))).same (f' := { fAt cur i with rad := x }) rfl rfl rfl rfl rfl
 have HOW := hide hown2
 have HS := hide hs2
 have HG := hide hg
 obtain ⟨d, hdd⟩ : ∃ d, (fAt cur i).rad = d := ⟨_, rfl⟩
 have HD := hide hdd
 rw [hdd] at d4
 have hch : ({ fAt cur i with rad := max d n } : FV).bare = (changeF 4 n (fAt cur i)).bare := by
  unfold changeF
  rw [if_neg (by omega), if_pos rfl, HD.out]
 have HC := hide hch
 clear hown hs fc hown2 hs2 hg hdd hch
 go_enter Tryz.func131, Tryz.ntmps131
 go_wp2_with fail
 go_end0
 exact ⟨rfl, { fAt cur i with rad := max d n }, HOW.out _, gbf_set ((Grew.refl W).grownBy _), HC.out, HS.out _, gset HG.out hgg⟩
theorem area_flat (A : Option Addr) (c : Nat) (rs : List Pt) : ∀ (l : List FV) (i : Nat), i < l.length → (l.flatMap FV.cells).set (i * 9 + 5) (.slice A rs.length c) = (l.set i { fAt l i with aA := A, ac := c, area := rs }).flatMap FV.cells
 | [], i, h => by simp at h
 | a :: l, 0, _ => by simp [FV.cells, fAt]
 | a :: l, i + 1, h => by
  have ih := area_flat A c rs l i (by simpa using h)
  have e : fAt (a :: l) (i + 1) = fAt l i := by unfold fAt; rw [List.getD_cons_succ]
  rw [e, List.set_cons_succ, List.flatMap_cons, List.flatMap_cons, ← ih]
  rw [show (i + 1) * 9 + 5 = (i * 9 + 5) + 1 + 1 + 1 + 1 + 1 + 1 + 1 + 1 + 1 by omega]
  simp [FV.cells]
theorem area_own {w : World} {base g n cap i : Nat} {fs : List FV} (h : w.ownsRow base 52 9 (.slice (some ⟨g, 0, none⟩) n cap) n (fs.flatMap FV.cells)) (hi : i < fs.length) (A : Option Addr) (c : Nat) (rs : List Pt) : (w.setCell ⟨g, i * 9 + 5, none⟩ (.slice A rs.length c)).ownsRow base 52 9 (.slice (some ⟨g, 0, none⟩) n cap) n ((fs.set i { fAt fs i with aA := A, ac := c, area := rs }).flatMap FV.cells) := by
 rw [← area_flat A c rs fs i hi]
 exact (h.stored _ _).1
theorem rect_len (b : B4) : (rectOf b).1.length ≤ 4 := by
 unfold rectOf
 split
 ·split <;> simp [rectC]
 ·simp
theorem box_v (n : Int) (cur : List FV) (base g cap i : Nat) (W0 W : World) (hown : W.ownsRow base 52 9 (.slice (some ⟨g, 0, none⟩) cur.length cap) cur.length (cur.flatMap FV.cells)) (hi : i < cur.length) (hb : W0.heap.size ≤ base) (hg : Grew W0 W) (hs : FSt W g (fAt cur i)) :
  Calls Tryz.prog 132 #[.pointer (some ⟨g, i * 9, none⟩), .int .i64 n] W (ChgP W0 W base g cap cur i (changeF 5 n (fAt cur i))) := by
 have hm := hmix
 obtain ⟨fc, hf⟩ := ownAt hown rfl hi
 obtain ⟨lg1, lg2⟩ := hown.lt g rfl
 have d5 := fc.c5
 have hrd := hs.rd
 have kb := hide (fun X (hg : Grew W X) => Box_any (fAt cur i).area (fAt cur i).aA (fAt cur i).ac X (hrd.area.up hg) hrd.la)
 have kr := hide (fun X => Rect_any (boxOf (fAt cur i).area).1 X)
 have hgg : W0.heap.size ≤ g := by omega
 have HG := hide hg
 have HO := hide hown
 have HS := hide hs
 have hch : ∀ A c, ({ fAt cur i with aA := A, ac := c, area := (rectOf (boxOf (fAt cur i).area).1).1 } : FV).bare = (changeF 5 n (fAt cur i)).bare := fun A c => by
  unfold changeF
  rw [if_neg (by omega), if_neg (by omega), if_pos rfl]
  rfl
 have HC := hide hch
 have hrl := rect_len (boxOf (fAt cur i).area).1
 clear hown hs hg fc hrd hch
 go_enter Tryz.func132, Tryz.ntmps132
 go_wp2_with (go_at_call 170; with_reducible refine crv (kb.out _ gw) fun _ _ => ?_; dsimp only)
 refine (kr.out _).mono ?_
 rintro e W1 ⟨v, rfl, hown, hg1⟩
 have HG1 : Hid (Grew W W1) := hide (Grew.trans gw hg1)
 have hown3 := own_mono hown (base' := W.heap.size) (Grew.below (w := W) gw).size
 obtain ⟨A', c', rfl, hc', hrd'⟩ := Rd.of_own encD_len hown3 rfl
 have HO3 := hide hown3
 have e1 := (HG1.out.below.cell (p := ⟨g, i * 9 + 5, none⟩) lg2).trans d5
 have e2 := (HG1.out.below.frozen (p := ⟨g, i * 9 + 5, none⟩) lg2).trans (hf _)
 have e3 : g < W1.heap.size := Nat.lt_of_lt_of_le lg2 HG1.out.below.size
 clear hown hg1 hown3 hrd' kb
 dsimp only
 generalize (rectOf (boxOf (fAt cur i).area).1).2 = er at *
 generalize (rectOf (boxOf (fAt cur i).area).1).1 = rs at *
 go_wp2_with fail
 go_end0
 refine ⟨rfl, { fAt cur i with aA := A', ac := c', area := rs }, area_own (fown_grew HO.out HG1.out) hi A' c' rs, gbf_set (HG1.out.grownBy _), HC.out A' c', fun w2 k2 => ?_, gset (HG.out.trans HG1.out) hgg⟩
 have k3 : W1.grownBy w2 (some g) := gb_trans (gbf_set ((Grew.refl W1).grownBy _)) k2
 have hk := HO3.out.kept k3 (.inr (by
  intro e
  have := HO3.out.lt g e
  omega))
 obtain ⟨A2, c2, he, _, hr2⟩ := Rd.of_own (f := encD) encD_len hk rfl
 have hA : A' = A2 := by injection he
 have hold := HS.out w2 (gb_trans (HG1.out.grownBy _) k3)
 exact ⟨by rw [hA]; exact hr2, hold.secs, by show rs.length ≤ _; omega, hold.ls, hold.lc⟩
end Go.Proofs.YtdoiaagajkabcaaGreat
