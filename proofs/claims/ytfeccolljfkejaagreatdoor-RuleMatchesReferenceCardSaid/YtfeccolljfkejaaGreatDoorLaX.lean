import Derived.Shelf.Strconv.Atoi
import Derived.Shelf.Strconv.Itoa3
import Derived.Shelf.Strings.BuilderK
import Derived.Test.YtfeccolljfkejaaGreatDoorProg
import Derived.WalkLawsBesides
import Derived.Laws.Strings2
import Derived.Test.YtfeccolljfkejaaGreatDoorReg
import Derived.Test.YtfeccolljfkejaaGreatDoorApp
import Derived.Test.YtfeccolljfkejaaGreatDoorPoa
/- The shelf's contracts of strconv.Atoi, strconv.Itoa and strings.Builder, laid at this program's numbers (the first three layings by the kit's lay-plain.mjs). -/
set_option linter.unusedSimpArgs false
set_option linter.unusedVariables false
namespace Go.Proofs
open Go.Shelf
def Tryz.lays172_ren : Go.Shelf.Ren := ⟨fun | 172 => 74 | 244 => 114 | 245 => 115 | 247 => 155 | 279 => 156 | 280 => 157 | 281 => 158 | 282 => 159 | 287 => 195 | 316 => 196 | 171 => 36 | 205 => 197 | 321 => 220 | 322 => 221 | 243 => 68 | 246 => 111 | 283 => 150 | 284 => 151 | 285 => 152 | 286 => 153 | 129 => 169 | 317 => 191 | 318 => 192 | 319 => 193 | 320 => 194 | 337 => 218 | 338 => 219 | n => n, fun | 9 => 9 | 3 => 3 | 75 => 68 | 76 => 69 | 4 => 4 | 5 => 5 | 167 => 187 | 37 => 32 | 0 => 0 | 85 => 188 | 2 => 2 | 168 => 190 | 53 => 181 | 175 => 227 | 46 => 155 | 210 => 231 | 127 => 108 | 145 => 249 | 143 => 247 | 21 => 21 | 171 => 180 | 173 => 184 | 212 => 225 | 51 => 202 | 20 => 20 | 213 => 226 | 232 => 254 | 233 => 255 | 80 => 79 | n => n, fun | 15 => 2 | 16 => 3 | 17 => 1 | 18 => 4 | 19 => 5 | n => n⟩
theorem Tryz.lays172 : Go.Proofs.Lays.n172 Tryz.prog Tryz.lays172_ren := {
 mixed := by kernel_rfl
 f129 := Tryz.func169.trans (congrArg some (by kernel_rfl))
 f171 := Tryz.func36.trans (congrArg some (by kernel_rfl))
 f172 := Tryz.func74.trans (congrArg some (by kernel_rfl))
 f205 := Tryz.func197.trans (congrArg some (by kernel_rfl))
 f243 := Tryz.func68.trans (congrArg some (by kernel_rfl))
 f244 := Tryz.func114.trans (congrArg some (by kernel_rfl))
 f245 := Tryz.func115.trans (congrArg some (by kernel_rfl))
 f246 := Tryz.func111.trans (congrArg some (by kernel_rfl))
 f247 := Tryz.func155.trans (congrArg some (by kernel_rfl))
 f279 := Tryz.func156.trans (congrArg some (by kernel_rfl))
 f280 := Tryz.func157.trans (congrArg some (by kernel_rfl))
 f281 := Tryz.func158.trans (congrArg some (by kernel_rfl))
 f282 := Tryz.func159.trans (congrArg some (by kernel_rfl))
 f283 := Tryz.func150.trans (congrArg some (by kernel_rfl))
 f284 := Tryz.func151.trans (congrArg some (by kernel_rfl))
 f285 := Tryz.func152.trans (congrArg some (by kernel_rfl))
 f286 := Tryz.func153.trans (congrArg some (by kernel_rfl))
 f287 := Tryz.func195.trans (congrArg some (by kernel_rfl))
 f316 := Tryz.func196.trans (congrArg some (by kernel_rfl))
 f317 := Tryz.func191.trans (congrArg some (by kernel_rfl))
 f318 := Tryz.func192.trans (congrArg some (by kernel_rfl))
 f319 := Tryz.func193.trans (congrArg some (by kernel_rfl))
 f320 := Tryz.func194.trans (congrArg some (by kernel_rfl))
 f321 := Tryz.func220.trans (congrArg some (by kernel_rfl))
 f322 := Tryz.func221.trans (congrArg some (by kernel_rfl))
 f337 := Tryz.func218.trans (congrArg some (by kernel_rfl))
 f338 := Tryz.func219.trans (congrArg some (by kernel_rfl))
 t0 := Tryz.underlying0
 a0 := Tryz.isAgg0
 z0 := Tryz.sizeOf0
 v0 := Tryz.zeroValue0
 t2 := Tryz.underlying2
 a2 := Tryz.isAgg2
 z2 := Tryz.sizeOf2
 v2 := Tryz.zeroValue2
 t3 := Tryz.underlying3
 a3 := Tryz.isAgg3
 z3 := Tryz.sizeOf3
 v3 := Tryz.zeroValue3
 t4 := Tryz.underlying4
 a4 := Tryz.isAgg4
 z4 := Tryz.sizeOf4
 v4 := Tryz.zeroValue4
 t5 := Tryz.underlying5
 a5 := Tryz.isAgg5
 z5 := Tryz.sizeOf5
 v5 := Tryz.zeroValue5
 t9 := Tryz.underlying9
 a9 := Tryz.isAgg9
 z9 := Tryz.sizeOf9
 v9 := Tryz.zeroValue9
 t20 := Tryz.underlying20
 a20 := Tryz.isAgg20
 z20 := Tryz.sizeOf20
 v20 := Tryz.zeroValue20
 t21 := Tryz.underlying21
 a21 := Tryz.isAgg21
 z21 := Tryz.sizeOf21
 v21 := Tryz.zeroValue21
 t37 := Tryz.underlying32
 a37 := Tryz.isAgg32
 z37 := Tryz.sizeOf32
 v37 := Tryz.zeroValue32
 t46 := Tryz.underlying155
 a46 := Tryz.isAgg155
 z46 := Tryz.sizeOf155
 v46 := Tryz.zeroValue155
 t51 := Tryz.underlying202
 a51 := Tryz.isAgg202
 z51 := Tryz.sizeOf202
 v51 := Tryz.zeroValue202
 t53 := Tryz.underlying181
 a53 := Tryz.isAgg181
 z53 := Tryz.sizeOf181
 v53 := Tryz.zeroValue181
 t75 := Tryz.underlying68
 a75 := Tryz.isAgg68
 z75 := Tryz.sizeOf68
 v75 := Tryz.zeroValue68
 t76 := Tryz.underlying69
 a76 := Tryz.isAgg69
 z76 := Tryz.sizeOf69
 v76 := Tryz.zeroValue69
 t85 := Tryz.underlying188
 a85 := Tryz.isAgg188
 z85 := Tryz.sizeOf188
 v85 := Tryz.zeroValue188
 t127 := Tryz.underlying108
 a127 := Tryz.isAgg108
 z127 := Tryz.sizeOf108
 v127 := Tryz.zeroValue108
 t143 := Tryz.underlying247
 a143 := Tryz.isAgg247
 z143 := Tryz.sizeOf247
 v143 := Tryz.zeroValue247
 t145 := Tryz.underlying249
 a145 := Tryz.isAgg249
 z145 := Tryz.sizeOf249
 v145 := Tryz.zeroValue249
 t167 := Tryz.underlying187
 a167 := Tryz.isAgg187
 z167 := Tryz.sizeOf187
 v167 := Tryz.zeroValue187
 t168 := Tryz.underlying190
 a168 := Tryz.isAgg190
 z168 := Tryz.sizeOf190
 v168 := Tryz.zeroValue190
 t171 := Tryz.underlying180
 a171 := Tryz.isAgg180
 z171 := Tryz.sizeOf180
 v171 := Tryz.zeroValue180
 t173 := Tryz.underlying184
 a173 := Tryz.isAgg184
 z173 := Tryz.sizeOf184
 v173 := Tryz.zeroValue184
 t175 := Tryz.underlying227
 a175 := Tryz.isAgg227
 z175 := Tryz.sizeOf227
 v175 := Tryz.zeroValue227
 t210 := Tryz.underlying231
 a210 := Tryz.isAgg231
 z210 := Tryz.sizeOf231
 v210 := Tryz.zeroValue231
 t212 := Tryz.underlying225
 a212 := Tryz.isAgg225
 z212 := Tryz.sizeOf225
 v212 := Tryz.zeroValue225
 t213 := Tryz.underlying226
 a213 := Tryz.isAgg226
 z213 := Tryz.sizeOf226
 t232 := Tryz.underlying254
 a232 := Tryz.isAgg254
 z232 := Tryz.sizeOf254
 v232 := Tryz.zeroValue254
 t233 := Tryz.underlying255
 a233 := Tryz.isAgg255
 z233 := Tryz.sizeOf255
 v233 := Tryz.zeroValue255
 g15 := by kernel_rfl
 g16 := by kernel_rfl
 g17 := by kernel_rfl
 g18 := by kernel_rfl
 g19 := by kernel_rfl }
def Tryz.laysM171_ren : Go.Shelf.Ren := ⟨fun | 171 => 36 | 243 => 68 | 246 => 111 | 283 => 150 | 284 => 151 | 285 => 152 | 286 => 153 | 129 => 169 | 317 => 191 | 318 => 192 | 319 => 193 | 320 => 194 | 337 => 218 | 338 => 219 | n => n, fun | 3 => 3 | 9 => 9 | 2 => 2 | 4 => 4 | 171 => 180 | 0 => 0 | 53 => 181 | 37 => 32 | 5 => 5 | 173 => 184 | 212 => 225 | 51 => 202 | 20 => 20 | 213 => 226 | 46 => 155 | 232 => 254 | 233 => 255 | n => n, fun | 17 => 1 | 18 => 4 | 19 => 5 | n => n⟩
theorem Tryz.laysM171 : Go.Proofs.LaysM.n171 Tryz.prog Tryz.laysM171_ren := {
 mixed := by kernel_rfl
 f129 := Tryz.func169.trans (congrArg some (by kernel_rfl))
 f171 := Tryz.func36.trans (congrArg some (by kernel_rfl))
 f243 := Tryz.func68.trans (congrArg some (by kernel_rfl))
 f246 := Tryz.func111.trans (congrArg some (by kernel_rfl))
 f283 := Tryz.func150.trans (congrArg some (by kernel_rfl))
 f284 := Tryz.func151.trans (congrArg some (by kernel_rfl))
 f285 := Tryz.func152.trans (congrArg some (by kernel_rfl))
 f286 := Tryz.func153.trans (congrArg some (by kernel_rfl))
 f317 := Tryz.func191.trans (congrArg some (by kernel_rfl))
 f318 := Tryz.func192.trans (congrArg some (by kernel_rfl))
 f319 := Tryz.func193.trans (congrArg some (by kernel_rfl))
 f320 := Tryz.func194.trans (congrArg some (by kernel_rfl))
 f337 := Tryz.func218.trans (congrArg some (by kernel_rfl))
 f338 := Tryz.func219.trans (congrArg some (by kernel_rfl))
 t0 := Tryz.underlying0
 a0 := Tryz.isAgg0
 z0 := Tryz.sizeOf0
 v0 := Tryz.zeroValue0
 t2 := Tryz.underlying2
 a2 := Tryz.isAgg2
 z2 := Tryz.sizeOf2
 v2 := Tryz.zeroValue2
 t3 := Tryz.underlying3
 a3 := Tryz.isAgg3
 z3 := Tryz.sizeOf3
 v3 := Tryz.zeroValue3
 t4 := Tryz.underlying4
 a4 := Tryz.isAgg4
 z4 := Tryz.sizeOf4
 v4 := Tryz.zeroValue4
 t5 := Tryz.underlying5
 a5 := Tryz.isAgg5
 z5 := Tryz.sizeOf5
 v5 := Tryz.zeroValue5
 t9 := Tryz.underlying9
 a9 := Tryz.isAgg9
 z9 := Tryz.sizeOf9
 v9 := Tryz.zeroValue9
 t20 := Tryz.underlying20
 a20 := Tryz.isAgg20
 z20 := Tryz.sizeOf20
 v20 := Tryz.zeroValue20
 t37 := Tryz.underlying32
 a37 := Tryz.isAgg32
 z37 := Tryz.sizeOf32
 v37 := Tryz.zeroValue32
 t46 := Tryz.underlying155
 a46 := Tryz.isAgg155
 z46 := Tryz.sizeOf155
 v46 := Tryz.zeroValue155
 t51 := Tryz.underlying202
 a51 := Tryz.isAgg202
 z51 := Tryz.sizeOf202
 v51 := Tryz.zeroValue202
 t53 := Tryz.underlying181
 a53 := Tryz.isAgg181
 z53 := Tryz.sizeOf181
 v53 := Tryz.zeroValue181
 t171 := Tryz.underlying180
 a171 := Tryz.isAgg180
 z171 := Tryz.sizeOf180
 v171 := Tryz.zeroValue180
 t173 := Tryz.underlying184
 a173 := Tryz.isAgg184
 z173 := Tryz.sizeOf184
 v173 := Tryz.zeroValue184
 t212 := Tryz.underlying225
 a212 := Tryz.isAgg225
 z212 := Tryz.sizeOf225
 v212 := Tryz.zeroValue225
 t213 := Tryz.underlying226
 a213 := Tryz.isAgg226
 z213 := Tryz.sizeOf226
 t232 := Tryz.underlying254
 a232 := Tryz.isAgg254
 z232 := Tryz.sizeOf254
 v232 := Tryz.zeroValue254
 t233 := Tryz.underlying255
 a233 := Tryz.isAgg255
 z233 := Tryz.sizeOf255
 v233 := Tryz.zeroValue255
 g17 := by kernel_rfl
 g18 := by kernel_rfl
 g19 := by kernel_rfl
 i0 := by kernel_rfl
 i2 := by kernel_rfl
 i3 := by kernel_rfl
 i4 := by kernel_rfl
 i5 := by kernel_rfl
 i9 := by kernel_rfl
 i20 := by kernel_rfl
 i37 := by kernel_rfl
 i46 := by kernel_rfl
 i51 := by kernel_rfl
 i53 := by kernel_rfl
 i171 := by kernel_rfl
 i173 := by kernel_rfl
 i212 := by kernel_rfl
 i232 := by kernel_rfl
 i233 := by kernel_rfl
 m17 := by kernel_rfl
 m18 := by kernel_rfl
 m19 := by kernel_rfl }
def Tryz.lays169_ren : Go.Shelf.Ren := ⟨fun | 169 => 37 | n => n, fun | 70 => 64 | 9 => 9 | 0 => 0 | 72 => 66 | 37 => 32 | 127 => 108 | 3 => 3 | 5 => 5 | n => n, fun | n => n⟩
theorem Tryz.lays169 : Go.Proofs.Lays.n169 Tryz.prog Tryz.lays169_ren := {
 mixed := by kernel_rfl
 f169 := Tryz.func37.trans (congrArg some (by kernel_rfl))
 t0 := Tryz.underlying0
 a0 := Tryz.isAgg0
 z0 := Tryz.sizeOf0
 v0 := Tryz.zeroValue0
 t3 := Tryz.underlying3
 a3 := Tryz.isAgg3
 z3 := Tryz.sizeOf3
 v3 := Tryz.zeroValue3
 t9 := Tryz.underlying9
 a9 := Tryz.isAgg9
 z9 := Tryz.sizeOf9
 v9 := Tryz.zeroValue9
 t37 := Tryz.underlying32
 a37 := Tryz.isAgg32
 z37 := Tryz.sizeOf32
 v37 := Tryz.zeroValue32
 t70 := Tryz.underlying64
 a70 := Tryz.isAgg64
 z70 := Tryz.sizeOf64
 v70 := Tryz.zeroValue64
 t72 := Tryz.underlying66
 a72 := Tryz.isAgg66
 z72 := Tryz.sizeOf66
 v72 := Tryz.zeroValue66
 t127 := Tryz.underlying108
 a127 := Tryz.isAgg108
 z127 := Tryz.sizeOf108
 v127 := Tryz.zeroValue108 }
def Tryz.lays166_ren : Go.Shelf.Ren := ⟨fun | 166 => 34 | 240 => 64 | 276 => 108 | n => n, fun | 0 => 0 | 3 => 3 | 4 => 4 | 9 => 9 | 20 => 20 | 37 => 32 | 5 => 5 | 70 => 64 | 72 => 66 | 75 => 68 | 80 => 79 | 164 => 148 | n => n, fun | n => n⟩
theorem Tryz.lays166 : Go.Proofs.Lays.n166 Tryz.prog Tryz.lays166_ren := {
 mixed := by kernel_rfl
 f166 := Tryz.func34.trans (congrArg some (by kernel_rfl))
 f240 := Tryz.func64.trans (congrArg some (by kernel_rfl))
 f276 := Tryz.func108.trans (congrArg some (by kernel_rfl))
 t0 := Tryz.underlying0
 a0 := Tryz.isAgg0
 z0 := Tryz.sizeOf0
 v0 := Tryz.zeroValue0
 t3 := Tryz.underlying3
 a3 := Tryz.isAgg3
 z3 := Tryz.sizeOf3
 v3 := Tryz.zeroValue3
 t4 := Tryz.underlying4
 a4 := Tryz.isAgg4
 z4 := Tryz.sizeOf4
 v4 := Tryz.zeroValue4
 t9 := Tryz.underlying9
 a9 := Tryz.isAgg9
 z9 := Tryz.sizeOf9
 v9 := Tryz.zeroValue9
 t20 := Tryz.underlying20
 a20 := Tryz.isAgg20
 z20 := Tryz.sizeOf20
 v20 := Tryz.zeroValue20
 t37 := Tryz.underlying32
 a37 := Tryz.isAgg32
 z37 := Tryz.sizeOf32
 v37 := Tryz.zeroValue32
 t70 := Tryz.underlying64
 a70 := Tryz.isAgg64
 z70 := Tryz.sizeOf64
 v70 := Tryz.zeroValue64
 t72 := Tryz.underlying66
 a72 := Tryz.isAgg66
 z72 := Tryz.sizeOf66
 v72 := Tryz.zeroValue66
 t75 := Tryz.underlying68
 a75 := Tryz.isAgg68
 z75 := Tryz.sizeOf68
 v75 := Tryz.zeroValue68
 t164 := Tryz.underlying148
 a164 := Tryz.isAgg148
 z164 := Tryz.sizeOf148
 v164 := Tryz.zeroValue148
}
theorem Tryz.Builder_Extra_166 : Builder.Extra Tryz.prog Tryz.lays166_ren := {
 sizeBuilder := by kernel_rfl
 liesBuilder := by kernel_rfl
 t5 := Tryz.underlying5
 a5 := Tryz.isAgg5
 z5 := Tryz.sizeOf5
 v5 := Tryz.zeroValue5
 infoByte := by kernel_rfl
 cellsByte := by kernel_rfl
 sizeByte := by kernel_rfl
 neB5 := by decide
}
theorem Tryz.Builder_Extra_169 : Builder.Extra Tryz.prog Tryz.lays169_ren := {
 sizeBuilder := by kernel_rfl
 liesBuilder := by kernel_rfl
 t5 := Tryz.underlying5
 a5 := Tryz.isAgg5
 z5 := Tryz.sizeOf5
 v5 := Tryz.zeroValue5
 infoByte := by kernel_rfl
 cellsByte := by kernel_rfl
 sizeByte := by kernel_rfl
 neB5 := by decide
}
end Go.Proofs

/- Package rule's reader: stop, skip, run, number; what its block holds. No condition but that a source is not longer than memory. -/
set_option linter.unusedSimpArgs false
set_option linter.unusedVariables false
set_option maxHeartbeats 4000000
set_option maxRecDepth 100000
namespace Go.Proofs.YtfeccolljfkejaaGreatDoor
open Go.RowKit Go.Sort
attribute [local go_sem] Steady steadyUpon
attribute [local go_sem ↓] hs_dr lt_add_r lt_add_r2 lt_add_r3 lt_add_r4 lt_add_r5 lt_add_r6
attribute [local go_sem] cell?_gd frozen?_gd setCell_gd size_grow tape_grow cell?_grow' frozen?_grow' setCell_grow' grow_grow grow_dr grow_drew dr_dr dr_drew drew_dr dr_alloc dr_setCell dr_cell dr_frozen dr_tape dr_drawn
attribute [local irreducible] wpSteady
/-- A byte of a string. -/
def bAt (s : ByteArray) (j : Nat) : Int := ((s.data.toList.getD j 0).toNat : Int)
theorem ba_len (s : ByteArray) : s.data.toList.length = s.size := by rw [Array.length_toList]; rfl
theorem ba_get (s : ByteArray) (j : Nat) (hj : j < s.size) : s[j] = s.data.toList.getD j 0 := by
 have h1 : j < s.data.toList.length := by rw [ba_len]; exact hj
 rw [List.getD_eq_getElem?_getD, List.getElem?_eq_getElem h1]
 rfl
theorem str_idx {P : Program} {t : TypeId} (ht : P.underlying t = some .string) (s : ByteArray) (j : Nat) (hj : j < s.size) : ∀ w, (Instr.index t (.string s) (.int .i64 (j : Int))).run P w = .ok (.int .u8 (bAt s j)) w := by
 intro w
 rw [run_index_string w t s .i64 (j : Int) ht, dif_pos ⟨by omega, by omega⟩]
 unfold bAt
 rw [← ba_get s j hj]
 rfl
theorem str_slice {P : Program} {t : TypeId} (ht : P.underlying t = some .string) (s : ByteArray) (i j : Nat) (hij : i ≤ j) (hj : j ≤ s.size) : ∀ w, (Instr.slice t (.string s) (some (.int .i64 (i : Int))) (some (.int .i64 (j : Int))) none).run P w = .ok (.string (s.extract i j)) w := fun w => by
 have := run_slice_string (P := P) w t s .i64 .i64 (i : Int) (j : Int) ht (by omega) (by omega) (by omega)
 simpa using this
/-- The end of what is like p, from i on. -/
def endOf (p : Int → Bool) (s : ByteArray) (i : Nat) : Nat := i + ((s.data.toList.drop i).takeWhile fun b => p (b.toNat : Int)).length
theorem drop_at {s : ByteArray} {i : Nat} (hi : i < s.size) : s.data.toList.drop i = (s.data.toList.getD i 0) :: s.data.toList.drop (i + 1) := by
 have h1 : i < s.data.toList.length := by rw [ba_len]; exact hi
 rw [List.drop_eq_getElem_cons h1, List.getD_eq_getElem?_getD, List.getElem?_eq_getElem h1]
 rfl
theorem endOf_stop {p : Int → Bool} {s : ByteArray} {i : Nat} (h : i < s.size → p (bAt s i) = false) : endOf p s i = i := by
 unfold endOf
 by_cases hi : i < s.size
 ·have h1 := h hi
  unfold bAt at h1
  rw [drop_at hi, List.takeWhile_cons, h1]
  rfl
 ·rw [List.drop_eq_nil_of_le (by rw [ba_len]; omega)]
  rfl
theorem endOf_step {p : Int → Bool} {s : ByteArray} {i : Nat} (hi : i < s.size) (h : p (bAt s i) = true) : endOf p s i = endOf p s (i + 1) := by
 unfold endOf
 unfold bAt at h
 rw [drop_at hi, List.takeWhile_cons, h, if_pos rfl, List.length_cons]
 omega
theorem endOf_ge (p : Int → Bool) (s : ByteArray) (i : Nat) : i ≤ endOf p s i := by unfold endOf; omega
theorem endOf_le {p : Int → Bool} {s : ByteArray} {i : Nat} (h : i ≤ s.size) : endOf p s i ≤ s.size := by
 unfold endOf
 have := (List.takeWhile_prefix (fun b : UInt8 => p (b.toNat : Int)) (l := s.data.toList.drop i)).length_le
 rw [List.length_drop, ba_len] at this
 omega
theorem ret_str {a b : ByteArray} (h : a = b) : Value.string a = .string b := by rw [h]
def isBl (b : Int) : Bool := decide (b = 32 ∨ b = 10)
def inR (lo hi b : Int) : Bool := decide (lo ≤ b ∧ b ≤ hi)
/-- What is a number's text. -/
def numB (x : ByteArray) : Bool := decide (1 ≤ x.size ∧ x.size ≤ 7 ∧ (x.size = 1 ∨ bAt x 0 ≠ 48))
/-- A reader's block. -/
abbrev rcl (s : ByteArray) (i : Int) : Obj := .cells #[.string s, .int .i64 i] 84 (0, 0)
/-- The world behind a call that moves the reader to j, and does nothing else to what was there. -/
structure RW (R : Nat) (s : ByteArray) (j : Int) (w w' : World) : Prop where
 gb : w.grownBy w' (some R)
 at_ : w'.heap[R]? = some (rcl s j)
section
variable {R : Nat} {s : ByteArray} {i j : Int} {w w' w'' : World}
theorem RW.of (h : w.heap[R]? = some (rcl s j)) (g : Grew w w') : RW R s j w w' := ⟨g.grownBy _, (g.heap (blk_lt h)).trans h⟩
theorem RW.trans (h : RW R s i w w') (k : RW R s j w' w'') : RW R s j w w'' :=
 ⟨⟨k.gb.os.trans h.gb.os, k.gb.tape.trans h.gb.tape, k.gb.output.trans h.gb.output, Nat.le_trans h.gb.size k.gb.size, fun b hb hne => (k.gb.block b (Nat.lt_of_lt_of_le hb h.gb.size) hne).trans (h.gb.block b hb hne)⟩, k.at_⟩
theorem RW.grew (h : RW R s j w w') (g : Grew w' w'') : RW R s j w w'' := h.trans (RW.of h.at_ g)
theorem RW.set0 (h : w.heap[R]? = some (rcl s i)) (j : Int) : RW R s j w (w.setCell ⟨R, 1, none⟩ (.int .i64 j)) :=
 ⟨⟨rfl, rfl, rfl, by simp, fun b hb hne => Below.heap_setCell w ⟨R, 1, none⟩ _ b (fun e => hne (by rw [e]))⟩, by
  have := heap_setCell_same w R 1 _ _ (.int .i64 j) h
  simpa using this⟩
theorem RW.set (h : w.heap[R]? = some (rcl s i)) (g : Grew (w.setCell ⟨R, 1, none⟩ (.int .i64 j)) w') : RW R s j w w' := (RW.set0 h j).grew g
theorem RW.old (h : RW R s j w w') {b : Nat} {o : Obj} (hne : b ≠ R) (hb : w.heap[b]? = some o) : w'.heap[b]? = some o :=
 (h.gb.block b (blk_lt hb) (fun e => hne (Option.some.inj e))).trans hb
end
/-- Where the reader is. -/
def posR (w : World) (R : Nat) : Nat := match w.cell? ⟨R, 1, none⟩ with
 | some (.int _ n) => n.toNat
 | _ => 0
theorem posR_at {w : World} {R : Nat} {s : ByteArray} {j : Nat} (h : w.heap[R]? = some (rcl s j)) : posR w R = j := by
 unfold posR
 rw [show w.cell? ⟨R, 1, none⟩ = some (.int .i64 (j : Int)) from blk_cell h 1]
 simp
theorem RW.inc {R j : Nat} {s : ByteArray} {w w' : World} (h : w.heap[R]? = some (rcl s (j : Int))) (g : Grew (w.setCell ⟨R, 1, none⟩ (.int .i64 ((j : Int) + 1))) w') : RW R s ((j + 1 : Nat) : Int) w w' := by
 have := RW.set h g
 simpa using this
theorem posR_inc {R j : Nat} {s : ByteArray} {w w' : World} (h : w.heap[R]? = some (rcl s (j : Int))) (g : Grew (w.setCell ⟨R, 1, none⟩ (.int .i64 ((j : Int) + 1))) w') : posR w' R = j + 1 := posR_at (RW.inc h g).at_
def StopR (i e : Int) (w : World) (en : Ending) (w' : World) : Prop := en = .panicked [{ v := .iface 81 (.agg #[.int .i64 i, .int .i64 e]), recovered := false }] ∧ Grew w w'
theorem stop_v (s : ByteArray) (R : Nat) (i e : Int) (w : World) (h : w.heap[R]? = some (rcl s i)) :
  Calls Tryz.prog 71 #[.pointer (some ⟨R, 0, none⟩), .int .i64 e] w (StopR i e w) := by
 have hm := hmix
 have c0 : w.cell? ⟨R, 0, none⟩ = _ := blk_cell h 0
 have c1 : w.cell? ⟨R, 1, none⟩ = _ := blk_cell h 1
 have cl := blk_lt h
 clear h
 go_enter Tryz.func71, Tryz.ntmps71
 go_wp2_with fail
 exact ⟨rfl, rfl, gw⟩
theorem skip_v (s : ByteArray) (R i : Nat) (w : World) (h : w.heap[R]? = some (rcl s (i : Int))) (hi : i ≤ s.size) (hs : s.size ≤ 100000000000000) :
  Calls Tryz.prog 39 #[.pointer (some ⟨R, 0, none⟩)] w fun e w' => e = .returned (.bool (decide (endOf isBl s i < s.size))) ∧ RW R s (endOf isBl s i : Nat) w w' := by
 have hm := hmix
 have H := hide h
 clear h
 go_enter Tryz.func39, Tryz.ntmps39
 go_wp2_with fail
 go_loopw [] (fun wr => ∃ j : Nat, i ≤ j ∧ j ≤ s.size ∧ AppG (endOf isBl s i = endOf isBl s j ∧ RW R s (j : Int) w wr)) (fun wr => s.size - posR wr R)
 case atStart => exact ⟨i, by omega, hi, rfl, RW.of H.out gw⟩
 case round =>
  obtain ⟨j, hij, hj, hrel⟩ := hrel
  obtain ⟨he, hrw⟩ := hrel.stop
  have HE := hide he
  have HR := hide hrw
  have c0 : wr.cell? ⟨R, 0, none⟩ = _ := blk_cell hrw.at_ 0
  have c1 : wr.cell? ⟨R, 1, none⟩ = _ := blk_cell hrw.at_ 1
  have cl := blk_lt hrw.at_
  have cf := blk_frozen hrw.at_ 1
  clear he hrw
  by_cases hlt : j < s.size
  ·have hix := str_idx Tryz.underlying9 s j hlt
   have h1 : (j : Int) < (s.size : Int) := by omega
   have h1d : decide ((j : Int) < (s.size : Int)) = true := decide_eq_true h1
   have hstep := endOf_step (p := isBl) hlt
   have hstop : ¬ (bAt s j = 32 ∨ bAt s j = 10) → endOf isBl s j = j := fun hn => endOf_stop fun _ => decide_eq_false hn
   have HST := hide hstep
   have HSP := hide hstop
   clear hstep hstop
   by_cases h32 : bAt s j = 32
   ·have hp : isBl (bAt s j) = true := by unfold isBl; rw [h32]; rfl
    rw [h32] at hix
    have HP := hide hp
    clear h32 hp
    go_wp2_with fail
    refine wp_region_qas 34 [] [] hm (h := ?_)
    repeat (refine wpSteady_step (fun K hK => ?_); go_simp; refine hK _ ?_; clear hK K)
    refine rq0 fun nq osq => ?_
    try simp only [Act.put, setA]
    try dsimp only
    go_wp2_with fail
    go_roundw
    case rel => exact ⟨j + 1, by omega, by omega, show _ ∧ _ from ⟨by rw [HE.out]; exact HST.out HP.out, HR.out.trans (RW.inc HR.out.at_ gw)⟩⟩
    case measure => rw [posR_at HR.out.at_, posR_inc HR.out.at_ (Grew.mk _ nq osq)]; omega
   ·by_cases h10 : bAt s j = 10
    ·have hp : isBl (bAt s j) = true := by unfold isBl; rw [h10]; rfl
     rw [h10] at hix
     have HP := hide hp
     clear h32 h10 hp
     go_wp2_with fail
     refine wp_region_qas 34 [] [] hm (h := ?_)
     repeat (refine wpSteady_step (fun K hK => ?_); go_simp; refine hK _ ?_; clear hK K)
     refine rq0 fun nq osq => ?_
     try simp only [Act.put, setA]
     try dsimp only
     go_wp2_with fail
     go_roundw
     case rel => exact ⟨j + 1, by omega, by omega, show _ ∧ _ from ⟨by rw [HE.out]; exact HST.out HP.out, HR.out.trans (RW.inc HR.out.at_ gw)⟩⟩
     case measure => rw [posR_at HR.out.at_, posR_inc HR.out.at_ (Grew.mk _ nq osq)]; omega
    ·have hend := HSP.out (by omega)
     have HEND := hide hend
     have n32 : (bAt s j == 32) = false := by simpa using h32
     have n10 : (bAt s j == 10) = false := by simpa using h10
     clear hend
     go_wp2_with fail
     refine wp_region_qas 34 [] [] hm (h := ?_)
     repeat (refine wpSteady_step (fun K hK => ?_); go_simp; refine hK _ ?_; clear hK K)
     refine rq0 fun nq osq => ?_
     try simp only [Act.put, setA]
     try dsimp only
     go_wp2_with fail
     refine wp_region_qas 11 [] [] hm (h := ?_)
     repeat (refine wpSteady_step (fun K hK => ?_); go_simp; refine hK _ ?_; clear hK K)
     refine rq0 fun nqz osqz => ?_
     try simp only [Act.put, setA]
     try dsimp only
     go_wp2_with fail
     go_ret
     refine ⟨congrArg Ending.returned (ret_bool ?_), ?_⟩
     ·rw [HE.out, HEND.out, decide_eq_true hlt]
     ·rw [HE.out, HEND.out]; exact HR.out.grew gw
  ·obtain rfl : j = s.size := by omega
   have hend : endOf isBl s s.size = s.size := endOf_stop fun h => by omega
   have h1 : ¬ (s.size : Int) < (s.size : Int) := by omega
   have HEND := hide hend
   clear hend
   go_wp2_with fail
   refine wp_region_qas 34 [] [] hm (h := ?_)
   repeat (refine wpSteady_step (fun K hK => ?_); go_simp; refine hK _ ?_; clear hK K)
   refine rq0 fun nq osq => ?_
   try simp only [Act.put, setA]
   try dsimp only
   go_wp2_with fail
   refine wp_region_qas 11 [] [] hm (h := ?_)
   repeat (refine wpSteady_step (fun K hK => ?_); go_simp; refine hK _ ?_; clear hK K)
   refine rq0 fun nqz osqz => ?_
   try simp only [Act.put, setA]
   try dsimp only
   go_wp2_with fail
   go_ret
   refine ⟨congrArg Ending.returned (ret_bool ?_), ?_⟩
   ·rw [HE.out, HEND.out, decide_eq_false hlt]
   ·rw [HE.out, HEND.out]; exact HR.out.grew gw
theorem run_v (s : ByteArray) (R i : Nat) (lo hi : Int) (w : World) (h : w.heap[R]? = some (rcl s (i : Int))) (hi' : i ≤ s.size) (hs : s.size ≤ 100000000000000) :
  Calls Tryz.prog 70 #[.pointer (some ⟨R, 0, none⟩), .int .u8 lo, .int .u8 hi] w (Ret w (.string (s.extract i (endOf (inR lo hi) s i)))) := by
 have hm := hmix
 have H := hide h
 have c0 : w.cell? ⟨R, 0, none⟩ = _ := blk_cell h 0
 have c1 : w.cell? ⟨R, 1, none⟩ = _ := blk_cell h 1
 have cl := blk_lt h
 clear h
 go_enter Tryz.func70, Tryz.ntmps70
 go_wp2_with fail
 go_loopw [7] (fun u wr => ∃ j : Nat, u = .int .i64 j ∧ i ≤ j ∧ j ≤ s.size ∧ Grew w wr ∧ AppG (endOf (inR lo hi) s i = endOf (inR lo hi) s j)) (fun u _ => s.size - (intOf u).toNat)
 case atStart => exact ⟨i, rfl, by omega, hi', gw, rfl⟩
 case round =>
  obtain ⟨j, rfl, hij, hj, hg, hrel⟩ := hrel
  have HE := hide hrel.stop
  have HG := hide hg
  have d0 : wr.cell? ⟨R, 0, none⟩ = _ := blk_cell ((hg.heap (blk_lt H.out)).trans H.out) 0
  have d1 : wr.cell? ⟨R, 1, none⟩ = _ := blk_cell ((hg.heap (blk_lt H.out)).trans H.out) 1
  have dl := blk_lt ((hg.heap (blk_lt H.out)).trans H.out)
  have hsl := str_slice Tryz.underlying9 s i j hij hj
  clear hg hrel c0 c1 cl
  have hcase : (j < s.size ∧ inR lo hi (bAt s j) = true) ∨ (j < s.size ∧ bAt s j < lo) ∨ (j < s.size ∧ lo ≤ bAt s j ∧ hi < bAt s j) ∨ ¬ j < s.size := by
   unfold inR
   rw [decide_eq_true_eq]
   omega
  rcases hcase with ⟨hlt, hp⟩ | ⟨hlt, hp⟩ | ⟨hlt, hq, hp⟩ | hlt
  ·have hix := str_idx Tryz.underlying9 s j hlt
   have HST := hide (endOf_step (p := inR lo hi) hlt hp)
   unfold inR at hp
   rw [decide_eq_true_eq] at hp
   obtain ⟨p1, p2⟩ := hp
   have q1 : decide (lo ≤ bAt s j) = true := decide_eq_true p1
   have q2 : decide (bAt s j ≤ hi) = true := decide_eq_true p2
   have h1 : (j : Int) < (s.size : Int) := by omega
   go_wp2_with fail
   go_roundw
   case rel => exact ⟨j + 1, by go_num, by omega, by omega, HG.out.trans gw, show _ = _ by rw [HE.out]; exact HST.out⟩
   case measure => simp [intOf]; omega
  ·have hix := str_idx Tryz.underlying9 s j hlt
   have HEND : Hid (endOf (inR lo hi) s j = j) := hide (endOf_stop fun _ => decide_eq_false (by omega))
   have q1 : decide (lo ≤ bAt s j) = false := decide_eq_false (by omega)
   have q0 : ¬ lo ≤ bAt s j := by omega
   have h1 : (j : Int) < (s.size : Int) := by omega
   go_wp2_with fail
   refine wp_region_qas 11 [] [] hm (h := ?_)
   repeat (refine wpSteady_step (fun K hK => ?_); go_simp; refine hK _ ?_; clear hK K)
   refine rq0 fun nq osq => ?_
   try simp only [Act.put, setA]
   try dsimp only
   go_wp2_with fail
   go_ret
   exact Ret.mk' (ret_str (by rw [HE.out, HEND.out])) (HG.out.trans gw)
  ·have hix := str_idx Tryz.underlying9 s j hlt
   have HEND : Hid (endOf (inR lo hi) s j = j) := hide (endOf_stop fun _ => decide_eq_false (by omega))
   have q1 : decide (lo ≤ bAt s j) = true := decide_eq_true hq
   have q2 : decide (bAt s j ≤ hi) = false := decide_eq_false (by omega)
   have q0 : ¬ bAt s j ≤ hi := by omega
   have h1 : (j : Int) < (s.size : Int) := by omega
   go_wp2_with fail
   refine wp_region_qas 11 [] [] hm (h := ?_)
   repeat (refine wpSteady_step (fun K hK => ?_); go_simp; refine hK _ ?_; clear hK K)
   refine rq0 fun nq osq => ?_
   try simp only [Act.put, setA]
   try dsimp only
   go_wp2_with fail
   go_ret
   exact Ret.mk' (ret_str (by rw [HE.out, HEND.out])) (HG.out.trans gw)
  ·obtain rfl : j = s.size := by omega
   have HEND : Hid (endOf (inR lo hi) s s.size = s.size) := hide (endOf_stop fun h => by omega)
   have h1 : ¬ (s.size : Int) < (s.size : Int) := by omega
   go_wp2_with fail
   refine wp_region_qas 11 [] [] hm (h := ?_)
   repeat (refine wpSteady_step (fun K hK => ?_); go_simp; refine hK _ ?_; clear hK K)
   refine rq0 fun nq osq => ?_
   try simp only [Act.put, setA]
   try dsimp only
   go_wp2_with fail
   go_ret
   exact Ret.mk' (ret_str (by rw [HE.out, HEND.out])) (HG.out.trans gw)
theorem ba_nil {x : ByteArray} (h : x.size = 0) : x = ⟨#[]⟩ := by
 obtain ⟨d⟩ := x
 have : d = #[] := Array.eq_empty_of_size_eq_zero h
 rw [this]
theorem number_v (s : ByteArray) (R i : Nat) (x : ByteArray) (w : World) (h : w.heap[R]? = some (rcl s (i : Int))) (hi' : i ≤ s.size) (hs : s.size ≤ 100000000000000) (hx : s.extract i (endOf (inR 48 57) s i) = x) :
  Calls Tryz.prog 69 #[.pointer (some ⟨R, 0, none⟩)] w (Ret w (.tuple #[.string x, .bool (numB x)])) := by
 have hm := hmix
 have k1 := hide (fun W (hg : Grew w W) => run_v s R i 48 57 W ((hg.heap (blk_lt h)).trans h) hi' hs)
 rw [hx] at k1
 clear h hx
 obtain ⟨r, hr⟩ : ∃ r, numB x = r := ⟨_, rfl⟩
 rw [hr]
 unfold numB at hr
 by_cases h0 : x.size = 0
 ·obtain rfl := ba_nil h0
  obtain rfl : false = r := by rw [← hr]; rfl
  clear hr h0
  go_enter Tryz.func69, Tryz.ntmps69
  go_wp2_with (go_at_call 70; with_reducible refine crv (k1.out _ gw) fun _ _ => ?_; dsimp only)
  refine wp_region_qas 20 [] [] hm (h := ?_)
  repeat (refine wpSteady_step (fun K hK => ?_); go_simp; refine hK _ ?_; clear hK K)
  refine rq0 fun nq osq => ?_
  try simp only [Act.put, setA]
  try dsimp only
  go_wp2_with fail
  go_ret2
  exact Ret.mk' rfl gw
 ·have e1 : ¬ x.toList = [] := by
   rw [ByteArray.toList_eq]
   intro h
   apply h0
   rw [← ba_len, h]
   rfl
  have e2 : (x.toList == []) = false := by simpa using e1
  have e3 : x.toList.isEmpty = false := by simpa using e1
  by_cases h7 : x.size ≤ 7
  ·have g7 : (x.size : Int) ≤ 7 := by omega
   by_cases hone : x.size = 1
   ·obtain rfl : true = r := by rw [← hr]; simp [hone]
    have g1 : (x.size : Int) = 1 := by omega
    clear hr h0 h7 hone
    go_enter Tryz.func69, Tryz.ntmps69
    go_wp2_with (go_at_call 70; with_reducible refine crv (k1.out _ gw) fun _ _ => ?_; dsimp only)
    refine wp_region_qas 20 [] [] hm (h := ?_)
    repeat (refine wpSteady_step (fun K hK => ?_); go_simp; refine hK _ ?_; clear hK K)
    refine rq0 fun nq osq => ?_
    try simp only [Act.put, setA]
    try dsimp only
    go_wp2_with fail
    go_ret2
    exact Ret.mk' rfl gw
   ·have g1 : ¬ (x.size : Int) = 1 := by omega
    have g2 : ((x.size : Int) == 1) = false := by simpa using g1
    have hix : ∀ w, (Instr.index 9 (.string x) (.int .i64 0)).run Tryz.prog w = .ok (.int .u8 (bAt x 0)) w := str_idx Tryz.underlying9 x 0 (by omega)
    by_cases h48 : bAt x 0 = 48
    ·obtain rfl : false = r := by rw [← hr]; simp [hone, h48]
     rw [h48] at hix
     clear hr h0 h7 hone h48
     go_enter Tryz.func69, Tryz.ntmps69
     go_wp2_with (go_at_call 70; with_reducible refine crv (k1.out _ gw) fun _ _ => ?_; dsimp only)
     refine wp_region_qas 20 [] [] hm (h := ?_)
     repeat (refine wpSteady_step (fun K hK => ?_); go_simp; refine hK _ ?_; clear hK K)
     refine rq0 fun nq osq => ?_
     try simp only [Act.put, setA]
     try dsimp only
     go_wp2_with fail
     go_ret2
     exact Ret.mk' rfl gw
    ·obtain rfl : true = r := by
      rw [← hr]
      simp [h48, h7]
      omega
     have h48b : (bAt x 0 == 48) = false := by simpa using h48
     clear hr h0 h7 hone
     go_enter Tryz.func69, Tryz.ntmps69
     go_wp2_with (go_at_call 70; with_reducible refine crv (k1.out _ gw) fun _ _ => ?_; dsimp only)
     refine wp_region_qas 20 [] [] hm (h := ?_)
     repeat (refine wpSteady_step (fun K hK => ?_); go_simp; refine hK _ ?_; clear hK K)
     refine rq0 fun nq osq => ?_
     try simp only [Act.put, setA]
     try dsimp only
     go_wp2_with fail
     go_ret2
     exact Ret.mk' (ret_tup2 rfl (ret_bool (by simpa using h48))) gw
  ·obtain rfl : false = r := by rw [← hr]; simp [h7]
   have g7 : ¬ (x.size : Int) ≤ 7 := by omega
   have g7d : decide ((x.size : Int) ≤ 7) = false := decide_eq_false g7
   clear hr h0 h7
   go_enter Tryz.func69, Tryz.ntmps69
   go_wp2_with (go_at_call 70; with_reducible refine crv (k1.out _ gw) fun _ _ => ?_; dsimp only)
   refine wp_region_qas 20 [] [] hm (h := ?_)
   repeat (refine wpSteady_step (fun K hK => ?_); go_simp; refine hK _ ?_; clear hK K)
   refine rq0 fun nq osq => ?_
   try simp only [Act.put, setA]
   try dsimp only
   go_wp2_with fail
   go_ret2
   exact Ret.mk' rfl gw
end Go.Proofs.YtfeccolljfkejaaGreatDoor

/- Package rule's reader: words out of a list. -/
set_option linter.unusedSimpArgs false
set_option linter.unusedVariables false
set_option maxHeartbeats 1600000
set_option maxRecDepth 100000
namespace Go.Proofs.YtfeccolljfkejaaGreatDoor
open Go.RowKit Go.Sort
attribute [local go_sem] Steady steadyUpon
attribute [local go_sem ↓] hs_dr lt_add_r lt_add_r2 lt_add_r3 lt_add_r4 lt_add_r5 lt_add_r6
attribute [local go_sem] cell?_gd frozen?_gd setCell_gd size_grow tape_grow cell?_grow' frozen?_grow' setCell_grow' grow_grow grow_dr grow_drew dr_dr dr_drew drew_dr dr_alloc dr_setCell dr_cell dr_frozen dr_tape dr_drawn
attribute [local irreducible] wpSteady
def encS (x : ByteArray) : List Value := [.string x]
theorem strCell {w : World} {B : Nat} {A : Option Addr} {ls : List ByteArray} {k : Nat} {x : ByteArray} (h : Rd w B 1 A (ls.map encS)) (hx : ls[k]? = some x) :
  ∃ b off, Hid (A = some ⟨b, off, none⟩) ∧ b < B ∧ w.cell? ⟨b, off + k, none⟩ = some (.string x) := by
 obtain ⟨b, off, hA, hb, hc⟩ := h.at_ (k := k) (x := encS x) (by simp [hx])
 have := hc 0 _ rfl
 simp only [Nat.mul_one, Nat.add_zero] at this
 exact ⟨b, off, hA, hb, this⟩
/-- Two strings alike. -/
def strB (x y : ByteArray) : Bool := x.data.toList == y.data.toList
theorem strB_iff {x y : ByteArray} : strB x y = true ↔ x = y := by
 unfold strB
 rw [beq_iff_eq]
 constructor
 ·intro h
  obtain ⟨a⟩ := x
  obtain ⟨b⟩ := y
  have : a = b := Array.toList_inj.1 h
  rw [this]
 ·intro h; rw [h]
theorem strB_to {x y : ByteArray} {r : Bool} (h : strB x y = r) : (x.toList == y.toList) = r := by
 rw [ByteArray.toList_eq, ByteArray.toList_eq]
 exact h
/-- The place of a word in a list, or -1. -/
def wIdx (ls : List ByteArray) (x : ByteArray) : Int := match ls.findIdx? (strB x) with
 | some k => (k : Int)
 | none => -1
theorem wIdx_at {ls : List ByteArray} {x y : ByteArray} {k : Nat} (hk : ls[k]? = some y) (hy : strB x y = true) (h : ∀ j z, j < k → ls[j]? = some z → strB x z = false) : wIdx ls x = (k : Int) := by
 have : ls.findIdx? (strB x) = some k := by
  rw [List.findIdx?_eq_some_iff_getElem]
  obtain ⟨h1, h2⟩ := List.getElem?_eq_some_iff.1 hk
  refine ⟨h1, by rw [h2]; exact hy, fun j hj => ?_⟩
  rw [h j _ hj (List.getElem?_eq_getElem (by omega))]
  decide
 unfold wIdx
 rw [this]
theorem wIdx_no {ls : List ByteArray} {x : ByteArray} (h : ∀ j z, j < ls.length → ls[j]? = some z → strB x z = false) : wIdx ls x = -1 := by
 have : ls.findIdx? (strB x) = none := by
  rw [List.findIdx?_eq_none_iff]
  intro z hz
  obtain ⟨j, hj, e⟩ := List.getElem_of_mem hz
  exact h j z hj (by rw [List.getElem?_eq_getElem hj, e])
 unfold wIdx
 rw [this]
theorem wIdx_lt (ls : List ByteArray) (x : ByteArray) : wIdx ls x < ls.length ∧ -1 ≤ wIdx ls x := by
 unfold wIdx
 cases h : ls.findIdx? (strB x) with
 | none => simp; omega
 | some k =>
  obtain ⟨h1, _⟩ := List.findIdx?_eq_some_iff_getElem.1 h
  simp
  omega
theorem idxStr_v (ls : List ByteArray) (A : Option Addr) (c : Nat) (x : ByteArray) (w : World) (hr : Rd w w.heap.size 1 A (ls.map encS)) (hc : ls.length ≤ 100000000000000) :
  Calls Tryz.prog 112 #[.slice A ls.length c, .string x] w (Ret w (.int .i64 (wIdx ls x))) := by
 have hm := hmix
 have HR := hide hr
 clear hr
 go_enter Tryz.func112, Tryz.ntmps112
 go_wp2_with fail
 go_loopw [8] (fun i wr => ∃ k : Nat, k ≤ ls.length ∧ i = .int .i64 k ∧ Grew w wr ∧ AppG (∀ j z, j < k → ls[j]? = some z → strB x z = false)) (fun i _ => ls.length - (intOf i).toNat)
 case atStart => exact ⟨0, by omega, rfl, gw, show ∀ j z, j < 0 → ls[j]? = some z → strB x z = false from fun j z hj => by omega⟩
 case round =>
  obtain ⟨k, hk, rfl, hg, hall⟩ := hrel
  have HG := hide hg
  have HA := hide hall.stop
  clear hg hall
  by_cases hlt : k < ls.length
  ·obtain ⟨y, hy⟩ : ∃ y, ls[k]? = some y := ⟨_, List.getElem?_eq_getElem hlt⟩
   obtain ⟨b, off, hA, hb, h0⟩ := strCell (HR.out.up HG.out) hy
   have hix := idx_run (cap := c) Tryz.underlying77 Tryz.sizeOf9 hA.out hlt
   rw [Nat.mul_one] at hix
   have HY := hide hy
   clear hy hA
   cases hs : strB x y
   ·have e1 := strB_to hs
    have e2 : ¬ x.toList = y.toList := by simpa using e1
    have HS := hide hs
    clear hs
    go_wp2_with fail
    go_roundw
    case rel => exact ⟨k + 1, by omega, by go_num, HG.out.trans gw, show ∀ j z, j < k + 1 → ls[j]? = some z → strB x z = false from (fun j z hj hz => by
     by_cases e : j = k
     ·subst e
      rw [HY.out] at hz
      injection hz with hz
      rw [← hz]
      exact HS.out
     ·exact HA.out j z (by omega) hz)⟩
    case measure => simp [intOf]; omega
   ·have hw := wIdx_at HY.out hs HA.out
    obtain rfl := strB_iff.1 hs
    have HW := hide hw
    clear hs hw
    go_wp2_with fail
    go_ret
    exact Ret.mk' (ret_int HW.out.symm) (HG.out.trans gw)
  ·obtain rfl : k = ls.length := by omega
   have HW := hide (wIdx_no HA.out)
   go_wp2_with fail
   go_ret
   exact Ret.mk' (ret_int HW.out.symm) (HG.out.trans gw)
/-- What a word is: its place in the list and where it begins, or an error and where. -/
def wordAt (ls : List ByteArray) (s : ByteArray) (i : Nat) : Except (Nat × Int) (Nat × Nat) :=
 if endOf (inR 97 122) s (endOf isBl s i) = endOf isBl s i then .error (endOf isBl s i, 10)
 else if wIdx ls (s.extract (endOf isBl s i) (endOf (inR 97 122) s (endOf isBl s i))) < 0 then .error (endOf isBl s i, 11)
 else .ok ((wIdx ls (s.extract (endOf isBl s i) (endOf (inR 97 122) s (endOf isBl s i)))).toNat, endOf isBl s i)
/-- A panic with an error at a place; but for the reader's block all is as it was. -/
def PanR (R : Nat) (i : Nat) (e : Int) (w : World) (en : Ending) (w' : World) : Prop := en = .panicked [{ v := .iface 81 (.agg #[.int .i64 (i : Int), .int .i64 e]), recovered := false }] ∧ w.grownBy w' (some R)
theorem PanR.of {R i : Nat} {s : ByteArray} {e : Int} {w w1 w' : World} {en : Ending} (h : RW R s (i : Int) w w1) (k : StopR i e w1 en w') : PanR R i e w en w' := ⟨k.1, (h.grew k.2).gb⟩
def WordR (ls : List ByteArray) (s : ByteArray) (R i : Nat) (w : World) (en : Ending) (w' : World) : Prop := match wordAt ls s i with
 | .error (p, e) => PanR R p e w en w'
 | .ok (k, a) => en = .returned (.int .i64 (k : Int)) ∧ RW R s (a : Int) w w'
theorem word_v (ls : List ByteArray) (A : Option Addr) (c : Nat) (s : ByteArray) (R i : Nat) (w : World) (h : w.heap[R]? = some (rcl s (i : Int))) (hi : i ≤ s.size) (hs : s.size ≤ 100000000000000)
  (hrd : ∀ w', w.grownBy w' (some R) → Rd w' w'.heap.size 1 A (ls.map encS)) (hc : ls.length ≤ 1000) :
  Calls Tryz.prog 72 #[.pointer (some ⟨R, 0, none⟩), .slice A ls.length c] w (WordR ls s R i w) := by
 have hm := hmix
 have k1 := hide (fun W (hg : Grew w W) => skip_v s R i W ((hg.heap (blk_lt h)).trans h) hi hs)
 have hle := endOf_le (p := isBl) hi
 have H := hide h
 have HD := hide hrd
 obtain ⟨r, hr⟩ : ∃ r, wordAt ls s i = r := ⟨_, rfl⟩
 unfold WordR
 rw [hr]
 unfold wordAt at hr
 generalize endOf isBl s i = a at *
 have hwl := wIdx_lt ls (s.extract a (endOf (inR 97 122) s a))
 obtain ⟨x, hx⟩ : ∃ x, s.extract a (endOf (inR 97 122) s a) = x := ⟨_, rfl⟩
 rw [hx] at hr hwl
 clear h hrd
 by_cases he : endOf (inR 97 122) s a = a
 ·rw [if_pos he] at hr
  subst hr
  have hx0 : x = ⟨#[]⟩ := ba_nil (by rw [← hx, he]; simp)
  subst hx0
  have HX := hide hx
  clear he hx hwl
  go_enter Tryz.func72, Tryz.ntmps72
  go_wp2_with fail
  refine (k1.out _ gw).mono ?_
  rintro e w1 ⟨rfl, hrw⟩
  have k2 := hide (fun W (hg : Grew w1 W) => run_v s R a 97 122 W ((hg.heap (blk_lt hrw.at_)).trans hrw.at_) hle hs)
  rw [HX.out] at k2
  have k3 := hide (fun W (hg : Grew w1 W) => stop_v s R (a : Int) 10 W ((hg.heap (blk_lt hrw.at_)).trans hrw.at_))
  have HRW := hide hrw
  clear k1 hrw
  dsimp only
  go_wp2_with (go_at_call 70; with_reducible refine crv (k2.out _ gw) fun _ _ => ?_; dsimp only)
  refine (k3.out _ gw).mono ?_
  rintro e w2 ⟨rfl, hg⟩
  have HG2 : Hid (Grew w1 w2) := hide (Grew.trans gw hg)
  clear hg k2 k3
  dsimp only
  go_wp2_with fail
  exact ⟨rfl, rfl, (HRW.out.grew HG2.out).gb⟩
 ·rw [if_neg he] at hr
  have hsz : ¬ x.size = 0 := by
   rw [← hx, ByteArray.size_extract]
   have := endOf_ge (inR 97 122) s a
   have := endOf_le (p := inR 97 122) hle
   omega
  have e1 : ¬ x.toList = [] := by
   rw [ByteArray.toList_eq]
   intro h
   apply hsz
   rw [← ba_len, h]
   rfl
  have e2 : (x.toList == []) = false := by simpa using e1
  have HX := hide hx
  clear he hx hsz
  by_cases hneg : wIdx ls x < 0
  ·rw [if_pos hneg] at hr
   subst hr
   have hm1 : wIdx ls x = -1 := by omega
   clear hneg hwl
   go_enter Tryz.func72, Tryz.ntmps72
   go_wp2_with fail
   refine (k1.out _ gw).mono ?_
   rintro e w1 ⟨rfl, hrw⟩
   have k2 := hide (fun W (hg : Grew w1 W) => run_v s R a 97 122 W ((hg.heap (blk_lt hrw.at_)).trans hrw.at_) hle hs)
   rw [HX.out] at k2
   have k3 := hide (fun W (hg : Grew w1 W) => stop_v s R (a : Int) 11 W ((hg.heap (blk_lt hrw.at_)).trans hrw.at_))
   have k4 := hide (fun W (hg : Grew w1 W) => idxStr_v ls A c x W (HD.out W (hrw.grew hg).gb) (by omega))
   rw [hm1] at k4
   have HRW := hide hrw
   clear k1 hrw hm1
   dsimp only
   go_wp2_with (first | (go_at_call 70; with_reducible refine crv (k2.out _ gw) fun _ _ => ?_; dsimp only) | (go_at_call 112; with_reducible refine crv (k4.out _ gw) fun _ _ => ?_; dsimp only))
   refine (k3.out _ gw).mono ?_
   rintro e w2 ⟨rfl, hg⟩
   have HG2 : Hid (Grew w1 w2) := hide (Grew.trans gw hg)
   clear hg k2 k3 k4
   dsimp only
   go_wp2_with fail
   exact ⟨rfl, rfl, (HRW.out.grew HG2.out).gb⟩
  ·rw [if_neg hneg] at hr
   subst hr
   obtain ⟨k, hk⟩ : ∃ k : Nat, wIdx ls x = (k : Int) := ⟨(wIdx ls x).toNat, by omega⟩
   rw [hk]
   have hk0 : ¬ (k : Int) < 0 := by omega
   clear hneg hwl
   go_enter Tryz.func72, Tryz.ntmps72
   go_wp2_with fail
   refine (k1.out _ gw).mono ?_
   rintro e w1 ⟨rfl, hrw⟩
   have k2 := hide (fun W (hg : Grew w1 W) => run_v s R a 97 122 W ((hg.heap (blk_lt hrw.at_)).trans hrw.at_) hle hs)
   rw [HX.out] at k2
   have k4 := hide (fun W (hg : Grew w1 W) => idxStr_v ls A c x W (HD.out W (hrw.grew hg).gb) (by omega))
   rw [hk] at k4
   have HRW := hide hrw
   clear k1 hrw hk
   dsimp only
   go_wp2_with (first | (go_at_call 70; with_reducible refine crv (k2.out _ gw) fun _ _ => ?_; dsimp only) | (go_at_call 112; with_reducible refine crv (k4.out _ gw) fun _ _ => ?_; dsimp only))
   go_ret
   exact ⟨congrArg Ending.returned (ret_int (by simp)), HRW.out.grew gw⟩
end Go.Proofs.YtfeccolljfkejaaGreatDoor

