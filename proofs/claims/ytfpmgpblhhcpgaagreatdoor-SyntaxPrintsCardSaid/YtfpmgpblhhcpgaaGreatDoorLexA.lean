/-
 DERIVED: THE SHELF's CONTRACTS AT THIS DUMP, IN PLAIN WORDS (tools/lay-plain.mjs out of 'TryzShelf.lean', which tools/lay-shelf.mjs wrote): THE SAME DECLARATIONS UNDER THE SAME NAMES: 'import', 'namespace', 'open', 'def', 'theorem' AND NOTHING ELSE: no command of the shelf's: FOR A HAND-IN. Each laying: the table of numbers ('.._ren') and one theorem, a field a fact of the dump's own or the kernel's comparison; each contract: ONE APPLICATION.
-/
import Derived.Shelf.Strings.Builder1
import Derived.Shelf.Strings.Builder2
import Derived.Shelf.Strings.OnBuilder
import Derived.Shelf.Small.Strs
import Derived.Shelf.Strings.BuilderF
import Derived.Shelf.Strings.BuilderK
import Derived.Shelf.Strings.Builder2Cap
import Derived.Shelf.Strconv.Itoa0
import Derived.Shelf.Strconv.Itoa1
import Derived.Shelf.LaysM
import Derived.Shelf.Strconv.Itoa2
import Derived.Shelf.Strconv.Itoa3
import Derived.Shelf.Strconv.Itoa4
import Derived.Shelf.Strconv.ParseIntEmpty
import Derived.Shelf.Strconv.Clone
import Derived.Shelf.Strconv.SyntaxError
import Derived.Shelf.LaysC
import Derived.Shelf.Strconv.ToError
import Derived.Shelf.Strconv.Lower
import Derived.Shelf.Strconv.ParseUint10
import Derived.Shelf.Strconv.ParseUint10Empty
import Derived.Shelf.Strconv.ParseUint10Any
import Derived.Shelf.Strconv.ParseInt10
import Derived.Shelf.Strconv.RangeError
import Derived.Shelf.Strconv.ToErrorRange
import Derived.Shelf.Strconv.ParseUintEmpty
import Derived.Shelf.Strconv.ParseUint10b64
import Derived.Shelf.Strconv.ParseUint10b32
import Derived.Shelf.Strconv.ParseUint10b16
import Derived.Shelf.Strconv.ParseUint10b8
import Derived.Shelf.Strconv.ParseUint10At
import Derived.Shelf.Strconv.ParseInt10At64
import Derived.Shelf.Strconv.ParseInt10At32
import Derived.Shelf.Strconv.ParseInt10At16
import Derived.Shelf.Strconv.ParseInt10At8
import Derived.Shelf.Strconv.ParseInt10All
import Derived.Shelf.Strconv.ParseIntPublic10
import Derived.Shelf.Strconv.ErrVarParseInt
import Derived.Shelf.Strings.Search1
import Derived.Shelf.Strings.Search2
import Derived.Shelf.Strings.Cut
import Derived.Shelf.Strings.Shaped
import Derived.Shelf.Strings.Prefix
import Derived.Shelf.Strings.Fields
import Derived.Shelf.Strings.SplitShaped
import Derived.Shelf.Unicode.Latin
import Derived.Shelf.Unicode.Is16White
import Derived.Shelf.Unicode.IsSpaceAny
import Derived.Shelf.Unicode.Is16WhiteD
import Derived.Shelf.Unicode.IsSpaceAnyD
import Derived.Shelf.Strings.FieldsAny
import Derived.Shelf.Strings.FieldsFuncAny
import Derived.Shelf.Unicode.Is16Any
import Derived.Shelf.Unicode.Is32Any
import Derived.Shelf.Unicode.ExclAny
import Derived.Shelf.Strings.FieldsFuncGrows
import Derived.Shelf.Strings.BuilderCap
import Derived.Shelf.Slices.Turned
import Derived.Test.YtfpmgpblhhcpgaaGreatDoorProg
import Derived.Lib.IndexMore
import Derived.Lib.ParseIntB
import Derived.Test.YtfpmgpblhhcpgaaGreatDoorHcLists
import Derived.Test.YtfpmgpblhhcpgaaGreatDoorVLex
set_option linter.unusedVariables false
set_option linter.unusedSimpArgs false
namespace Go.Proofs
set_option maxRecDepth 100000
section
open Go.Shelf
def Tryz.lays169_ren : Go.Shelf.Ren := ⟨fun | 169 => 34 | n => n, fun | 70 => 79 | 9 => 9 | 0 => 0 | 72 => 82 | 37 => 80 | 127 => 122 | 3 => 3 | 5 => 5 | n => n, fun | n => n⟩
theorem Tryz.lays169 : Go.Proofs.Lays.n169 Tryz.prog Tryz.lays169_ren := {
 mixed := by kernel_rfl
 f169 := Tryz.func34.trans (congrArg some (by kernel_rfl))
 t0 := Tryz.underlying0
 a0 := Tryz.isAgg0
 z0 := Tryz.sizeOf0
 v0 := Tryz.zeroValue0
 t3 := Tryz.underlying3
 a3 := Tryz.isAgg3
 z3 := Tryz.sizeOf3
 v3 := Tryz.zeroValue3
 t9 := Tryz.underlying9
 a9 := Tryz.isAgg9
 z9 := Tryz.sizeOf9
 v9 := Tryz.zeroValue9
 t37 := Tryz.underlying80
 a37 := Tryz.isAgg80
 z37 := Tryz.sizeOf80
 v37 := Tryz.zeroValue80
 t70 := Tryz.underlying79
 a70 := Tryz.isAgg79
 z70 := Tryz.sizeOf79
 v70 := Tryz.zeroValue79
 t72 := Tryz.underlying82
 a72 := Tryz.isAgg82
 z72 := Tryz.sizeOf82
 v72 := Tryz.zeroValue82
 t127 := Tryz.underlying122
 a127 := Tryz.isAgg122
 z127 := Tryz.sizeOf122
 v127 := Tryz.zeroValue122 }
theorem Tryz.Builder_Extra_169 : Builder.Extra Tryz.prog Tryz.lays169_ren := {
 sizeBuilder := by kernel_rfl
 liesBuilder := by kernel_rfl
 t5 := Tryz.underlying5
 a5 := Tryz.isAgg5
 z5 := Tryz.sizeOf5
 v5 := Tryz.zeroValue5
 infoByte := by kernel_rfl
 cellsByte := by kernel_rfl
 sizeByte := by kernel_rfl
 neB5 := by decide }
def Tryz.lays241_ren : Go.Shelf.Ren := ⟨fun | 241 => 150 | 277 => 176 | n => n, fun | 70 => 79 | 3 => 3 | 0 => 0 | 72 => 82 | 37 => 80 | 5 => 5 | n => n, fun | n => n⟩
def Tryz.lays165_ren : Go.Shelf.Ren := ⟨fun | 165 => 130 | 240 => 95 | 241 => 150 | 276 => 131 | 277 => 176 | n => n, fun | 70 => 79 | 3 => 3 | 0 => 0 | 4 => 4 | 9 => 9 | 20 => 20 | 72 => 82 | 37 => 80 | 164 => 151 | 5 => 5 | n => n, fun | n => n⟩
theorem Tryz.lays165 : Go.Proofs.Lays.n165 Tryz.prog Tryz.lays165_ren := {
 mixed := by kernel_rfl
 f165 := Tryz.func130.trans (congrArg some (by kernel_rfl))
 f240 := Tryz.func95.trans (congrArg some (by kernel_rfl))
 f241 := Tryz.func150.trans (congrArg some (by kernel_rfl))
 f276 := Tryz.func131.trans (congrArg some (by kernel_rfl))
 f277 := Tryz.func176.trans (congrArg some (by kernel_rfl))
 t0 := Tryz.underlying0
 a0 := Tryz.isAgg0
 z0 := Tryz.sizeOf0
 v0 := Tryz.zeroValue0
 t3 := Tryz.underlying3
 a3 := Tryz.isAgg3
 z3 := Tryz.sizeOf3
 v3 := Tryz.zeroValue3
 t4 := Tryz.underlying4
 a4 := Tryz.isAgg4
 z4 := Tryz.sizeOf4
 v4 := Tryz.zeroValue4
 t9 := Tryz.underlying9
 a9 := Tryz.isAgg9
 z9 := Tryz.sizeOf9
 v9 := Tryz.zeroValue9
 t20 := Tryz.underlying20
 a20 := Tryz.isAgg20
 z20 := Tryz.sizeOf20
 v20 := Tryz.zeroValue20
 t37 := Tryz.underlying80
 a37 := Tryz.isAgg80
 z37 := Tryz.sizeOf80
 v37 := Tryz.zeroValue80
 t70 := Tryz.underlying79
 a70 := Tryz.isAgg79
 z70 := Tryz.sizeOf79
 v70 := Tryz.zeroValue79
 t72 := Tryz.underlying82
 a72 := Tryz.isAgg82
 z72 := Tryz.sizeOf82
 v72 := Tryz.zeroValue82
 t164 := Tryz.underlying151
 a164 := Tryz.isAgg151
 z164 := Tryz.sizeOf151
 v164 := Tryz.zeroValue151 }
theorem Tryz.Builder_Extra_165 : Builder.Extra Tryz.prog Tryz.lays165_ren := {
 sizeBuilder := by kernel_rfl
 liesBuilder := by kernel_rfl
 t5 := Tryz.underlying5
 a5 := Tryz.isAgg5
 z5 := Tryz.sizeOf5
 v5 := Tryz.zeroValue5
 infoByte := by kernel_rfl
 cellsByte := by kernel_rfl
 sizeByte := by kernel_rfl
 neB5 := by decide }
def Tryz.lays156_ren : Go.Shelf.Ren := ⟨fun | 156 => 94 | 165 => 130 | 166 => 63 | 169 => 34 | 240 => 95 | 241 => 150 | 276 => 131 | 277 => 176 | n => n, fun | 31 => 109 | 9 => 9 | 3 => 3 | 4 => 4 | 0 => 0 | 20 => 20 | 72 => 82 | 76 => 119 | 70 => 79 | 37 => 80 | 75 => 25 | 127 => 122 | 164 => 151 | 5 => 5 | 80 => 86 | n => n, fun | n => n⟩
theorem Tryz.lays156 : Go.Proofs.Lays.n156 Tryz.prog Tryz.lays156_ren := {
 mixed := by kernel_rfl
 f156 := Tryz.func94.trans (congrArg some (by kernel_rfl))
 f165 := Tryz.func130.trans (congrArg some (by kernel_rfl))
 f166 := Tryz.func63.trans (congrArg some (by kernel_rfl))
 f169 := Tryz.func34.trans (congrArg some (by kernel_rfl))
 f240 := Tryz.func95.trans (congrArg some (by kernel_rfl))
 f241 := Tryz.func150.trans (congrArg some (by kernel_rfl))
 f276 := Tryz.func131.trans (congrArg some (by kernel_rfl))
 f277 := Tryz.func176.trans (congrArg some (by kernel_rfl))
 t0 := Tryz.underlying0
 a0 := Tryz.isAgg0
 z0 := Tryz.sizeOf0
 v0 := Tryz.zeroValue0
 t3 := Tryz.underlying3
 a3 := Tryz.isAgg3
 z3 := Tryz.sizeOf3
 v3 := Tryz.zeroValue3
 t4 := Tryz.underlying4
 a4 := Tryz.isAgg4
 z4 := Tryz.sizeOf4
 v4 := Tryz.zeroValue4
 t9 := Tryz.underlying9
 a9 := Tryz.isAgg9
 z9 := Tryz.sizeOf9
 v9 := Tryz.zeroValue9
 t20 := Tryz.underlying20
 a20 := Tryz.isAgg20
 z20 := Tryz.sizeOf20
 v20 := Tryz.zeroValue20
 t31 := Tryz.underlying109
 a31 := Tryz.isAgg109
 z31 := Tryz.sizeOf109
 v31 := Tryz.zeroValue109
 t37 := Tryz.underlying80
 a37 := Tryz.isAgg80
 z37 := Tryz.sizeOf80
 v37 := Tryz.zeroValue80
 t70 := Tryz.underlying79
 a70 := Tryz.isAgg79
 z70 := Tryz.sizeOf79
 v70 := Tryz.zeroValue79
 t72 := Tryz.underlying82
 a72 := Tryz.isAgg82
 z72 := Tryz.sizeOf82
 v72 := Tryz.zeroValue82
 t75 := Tryz.underlying25
 a75 := Tryz.isAgg25
 z75 := Tryz.sizeOf25
 v75 := Tryz.zeroValue25
 t76 := Tryz.underlying119
 a76 := Tryz.isAgg119
 z76 := Tryz.sizeOf119
 v76 := Tryz.zeroValue119
 t127 := Tryz.underlying122
 a127 := Tryz.isAgg122
 z127 := Tryz.sizeOf122
 v127 := Tryz.zeroValue122
 t164 := Tryz.underlying151
 a164 := Tryz.isAgg151
 z164 := Tryz.sizeOf151
 v164 := Tryz.zeroValue151 }
theorem Tryz.Builder_Extra_156 : Builder.Extra Tryz.prog Tryz.lays156_ren := {
 sizeBuilder := by kernel_rfl
 liesBuilder := by kernel_rfl
 t5 := Tryz.underlying5
 a5 := Tryz.isAgg5
 z5 := Tryz.sizeOf5
 v5 := Tryz.zeroValue5
 infoByte := by kernel_rfl
 cellsByte := by kernel_rfl
 sizeByte := by kernel_rfl
 neB5 := by decide }
open Go.RowKit in
theorem Tryz.strings_Join_none (a : Option Addr) (c : Nat) (sep : ByteArray) (w : World) :
 Calls Tryz.prog 94 #[.slice a 0 c, .string sep] w fun e w' => e = .returned (.string ⟨#[]⟩) ∧ w' = w := Any.strings_Join_none Tryz.lays156 Tryz.Builder_Extra_156 a c sep w
open Go.RowKit in
theorem Tryz.strings_Join (bk o c : Nat) (xs : List ByteArray) (sep : ByteArray) (w : World) (jaR : ∀ (j : Nat) x, xs[j]? = some x → w.cell? ⟨bk, o + j, none⟩ = some (.string x)) (hbk : bk < w.heap.size) (hN : xs.length ≤ 140737488355328) (hcap : xs.length ≤ c) (hlen : (Lib.join (xs.map (·.data.toList)) sep.data.toList).length ≤ 140737488355328) :
 Calls Tryz.prog 94 #[.slice (some ⟨bk, o, none⟩) xs.length c, .string sep] w fun e w' => e = .returned (.string ⟨(Lib.join (xs.map (·.data.toList)) sep.data.toList).toArray⟩) ∧ Below w.heap.size w w' := Any.strings_Join Tryz.lays156 Tryz.Builder_Extra_156 bk o c xs sep w jaR hbk hN hcap hlen
def Tryz.lays137_ren : Go.Shelf.Ren := ⟨fun | 137 => 107 | 217 => 138 | 266 => 154 | n => n, fun | 9 => 9 | 5 => 5 | 3 => 3 | n => n, fun | n => n⟩
theorem Tryz.lays137 : Go.Proofs.Lays.n137 Tryz.prog Tryz.lays137_ren := {
 mixed := by kernel_rfl
 f137 := Tryz.func107.trans (congrArg some (by kernel_rfl))
 f217 := Tryz.func138.trans (congrArg some (by kernel_rfl))
 f266 := Tryz.func154.trans (congrArg some (by kernel_rfl))
 t3 := Tryz.underlying3
 a3 := Tryz.isAgg3
 z3 := Tryz.sizeOf3
 v3 := Tryz.zeroValue3
 t5 := Tryz.underlying5
 a5 := Tryz.isAgg5
 z5 := Tryz.sizeOf5
 v5 := Tryz.zeroValue5
 t9 := Tryz.underlying9
 a9 := Tryz.isAgg9
 z9 := Tryz.sizeOf9
 v9 := Tryz.zeroValue9 }
open Go.RowKit in
theorem Tryz.strings_IndexByte (s : ByteArray) (c : Int) (w : World) :
 Calls Tryz.prog 107 #[.string s, .int .u8 c] w fun e w' => e = .returned (.int .i64 (Lib.indexByte s.data.toList c.toNat.toUInt8)) ∧ w' = w := Any.strings_IndexByte Tryz.lays137 s c w
def Tryz.lays129_ren : Go.Shelf.Ren := ⟨fun | 129 => 207 | n => n, fun | 53 => 132 | 3 => 3 | 4 => 4 | 46 => 167 | 5 => 5 | 9 => 9 | n => n, fun | n => n⟩
def Tryz.lays317_ren : Go.Shelf.Ren := ⟨fun | 317 => 206 | n => n, fun | 3 => 3 | 46 => 167 | n => n, fun | n => n⟩
def Tryz.lays318_ren : Go.Shelf.Ren := ⟨fun | 318 => 208 | n => n, fun | 3 => 3 | 4 => 4 | n => n, fun | n => n⟩
def Tryz.lays283_ren : Go.Shelf.Ren := ⟨fun | 283 => 201 | n => n, fun | 3 => 3 | 9 => 9 | 4 => 4 | n => n, fun | n => n⟩
def Tryz.laysM284_ren : Go.Shelf.Ren := ⟨fun | 284 => 202 | 129 => 207 | 317 => 206 | 318 => 208 | n => n, fun | 53 => 132 | 3 => 3 | 212 => 218 | 0 => 0 | 4 => 4 | 46 => 167 | 5 => 5 | 9 => 9 | n => n, fun | 17 => 5 | n => n⟩
def Tryz.lays285_ren : Go.Shelf.Ren := ⟨fun | 285 => 203 | n => n, fun | 37 => 80 | 53 => 132 | 3 => 3 | 4 => 4 | 51 => 188 | 9 => 9 | 5 => 5 | 0 => 0 | n => n, fun | n => n⟩
def Tryz.laysM246_ren : Go.Shelf.Ren := ⟨fun | 246 => 192 | 283 => 201 | 284 => 202 | 285 => 203 | 286 => 204 | 129 => 207 | 317 => 206 | 318 => 208 | 319 => 209 | 320 => 210 | 337 => 212 | 338 => 213 | n => n, fun | 2 => 2 | 3 => 3 | 9 => 9 | 4 => 4 | 171 => 210 | 0 => 0 | 53 => 132 | 37 => 80 | 5 => 5 | 173 => 213 | 212 => 218 | 51 => 188 | 20 => 20 | 213 => 219 | 46 => 167 | 232 => 224 | 233 => 225 | n => n, fun | 17 => 5 | 18 => 6 | 19 => 7 | n => n⟩
def Tryz.lays246_ren : Go.Shelf.Ren := ⟨fun | 246 => 192 | 283 => 201 | 284 => 202 | 285 => 203 | 286 => 204 | 129 => 207 | 317 => 206 | 318 => 208 | 319 => 209 | 320 => 210 | 337 => 212 | 338 => 213 | n => n, fun | 2 => 2 | 3 => 3 | 9 => 9 | 4 => 4 | 171 => 210 | 0 => 0 | 53 => 132 | 37 => 80 | 5 => 5 | 173 => 213 | 212 => 218 | 51 => 188 | 20 => 20 | 213 => 219 | 46 => 167 | 232 => 224 | 233 => 225 | n => n, fun | 17 => 5 | 18 => 6 | 19 => 7 | n => n⟩
def Tryz.laysM243_ren : Go.Shelf.Ren := ⟨fun | 243 => 194 | 246 => 192 | 283 => 201 | 284 => 202 | 285 => 203 | 286 => 204 | 129 => 207 | 317 => 206 | 318 => 208 | 319 => 209 | 320 => 210 | 337 => 212 | 338 => 213 | n => n, fun | 3 => 3 | 9 => 9 | 2 => 2 | 4 => 4 | 171 => 210 | 0 => 0 | 53 => 132 | 37 => 80 | 5 => 5 | 173 => 213 | 212 => 218 | 51 => 188 | 20 => 20 | 213 => 219 | 46 => 167 | 232 => 224 | 233 => 225 | n => n, fun | 17 => 5 | 18 => 6 | 19 => 7 | n => n⟩
def Tryz.lays243_ren : Go.Shelf.Ren := ⟨fun | 243 => 194 | 246 => 192 | 283 => 201 | 284 => 202 | 285 => 203 | 286 => 204 | 129 => 207 | 317 => 206 | 318 => 208 | 319 => 209 | 320 => 210 | 337 => 212 | 338 => 213 | n => n, fun | 3 => 3 | 9 => 9 | 2 => 2 | 4 => 4 | 171 => 210 | 0 => 0 | 53 => 132 | 37 => 80 | 5 => 5 | 173 => 213 | 212 => 218 | 51 => 188 | 20 => 20 | 213 => 219 | 46 => 167 | 232 => 224 | 233 => 225 | n => n, fun | 17 => 5 | 18 => 6 | 19 => 7 | n => n⟩
def Tryz.laysM171_ren : Go.Shelf.Ren := ⟨fun | 171 => 187 | 243 => 194 | 246 => 192 | 283 => 201 | 284 => 202 | 285 => 203 | 286 => 204 | 129 => 207 | 317 => 206 | 318 => 208 | 319 => 209 | 320 => 210 | 337 => 212 | 338 => 213 | n => n, fun | 3 => 3 | 9 => 9 | 2 => 2 | 4 => 4 | 171 => 210 | 0 => 0 | 53 => 132 | 37 => 80 | 5 => 5 | 173 => 213 | 212 => 218 | 51 => 188 | 20 => 20 | 213 => 219 | 46 => 167 | 232 => 224 | 233 => 225 | n => n, fun | 17 => 5 | 18 => 6 | 19 => 7 | n => n⟩
def Tryz.lays171_ren : Go.Shelf.Ren := ⟨fun | 171 => 187 | 243 => 194 | 246 => 192 | 283 => 201 | 284 => 202 | 285 => 203 | 286 => 204 | 129 => 207 | 317 => 206 | 318 => 208 | 319 => 209 | 320 => 210 | 337 => 212 | 338 => 213 | n => n, fun | 3 => 3 | 9 => 9 | 2 => 2 | 4 => 4 | 171 => 210 | 0 => 0 | 53 => 132 | 37 => 80 | 5 => 5 | 173 => 213 | 212 => 218 | 51 => 188 | 20 => 20 | 213 => 219 | 46 => 167 | 232 => 224 | 233 => 225 | n => n, fun | 17 => 5 | 18 => 6 | 19 => 7 | n => n⟩
def Tryz.laysM173_ren : Go.Shelf.Ren := ⟨fun | 173 => 177 | 246 => 192 | 283 => 201 | 284 => 202 | 285 => 203 | 286 => 204 | 129 => 207 | 317 => 206 | 318 => 208 | 319 => 209 | 320 => 210 | 337 => 212 | 338 => 213 | n => n, fun | 2 => 2 | 3 => 3 | 9 => 9 | 4 => 4 | 171 => 210 | 0 => 0 | 53 => 132 | 37 => 80 | 5 => 5 | 173 => 213 | 212 => 218 | 51 => 188 | 20 => 20 | 213 => 219 | 46 => 167 | 232 => 224 | 233 => 225 | n => n, fun | 17 => 5 | 18 => 6 | 19 => 7 | n => n⟩
theorem Tryz.laysM173 : Go.Proofs.LaysM.n173 Tryz.prog Tryz.laysM173_ren := {
 mixed := by kernel_rfl
 f129 := Tryz.func207.trans (congrArg some (by kernel_rfl))
 f173 := Tryz.func177.trans (congrArg some (by kernel_rfl))
 f246 := Tryz.func192.trans (congrArg some (by kernel_rfl))
 f283 := Tryz.func201.trans (congrArg some (by kernel_rfl))
 f284 := Tryz.func202.trans (congrArg some (by kernel_rfl))
 f285 := Tryz.func203.trans (congrArg some (by kernel_rfl))
 f286 := Tryz.func204.trans (congrArg some (by kernel_rfl))
 f317 := Tryz.func206.trans (congrArg some (by kernel_rfl))
 f318 := Tryz.func208.trans (congrArg some (by kernel_rfl))
 f319 := Tryz.func209.trans (congrArg some (by kernel_rfl))
 f320 := Tryz.func210.trans (congrArg some (by kernel_rfl))
 f337 := Tryz.func212.trans (congrArg some (by kernel_rfl))
 f338 := Tryz.func213.trans (congrArg some (by kernel_rfl))
 t0 := Tryz.underlying0
 a0 := Tryz.isAgg0
 z0 := Tryz.sizeOf0
 v0 := Tryz.zeroValue0
 t2 := Tryz.underlying2
 a2 := Tryz.isAgg2
 z2 := Tryz.sizeOf2
 v2 := Tryz.zeroValue2
 t3 := Tryz.underlying3
 a3 := Tryz.isAgg3
 z3 := Tryz.sizeOf3
 v3 := Tryz.zeroValue3
 t4 := Tryz.underlying4
 a4 := Tryz.isAgg4
 z4 := Tryz.sizeOf4
 v4 := Tryz.zeroValue4
 t5 := Tryz.underlying5
 a5 := Tryz.isAgg5
 z5 := Tryz.sizeOf5
 v5 := Tryz.zeroValue5
 t9 := Tryz.underlying9
 a9 := Tryz.isAgg9
 z9 := Tryz.sizeOf9
 v9 := Tryz.zeroValue9
 t20 := Tryz.underlying20
 a20 := Tryz.isAgg20
 z20 := Tryz.sizeOf20
 v20 := Tryz.zeroValue20
 t37 := Tryz.underlying80
 a37 := Tryz.isAgg80
 z37 := Tryz.sizeOf80
 v37 := Tryz.zeroValue80
 t46 := Tryz.underlying167
 a46 := Tryz.isAgg167
 z46 := Tryz.sizeOf167
 v46 := Tryz.zeroValue167
 t51 := Tryz.underlying188
 a51 := Tryz.isAgg188
 z51 := Tryz.sizeOf188
 v51 := Tryz.zeroValue188
 t53 := Tryz.underlying132
 a53 := Tryz.isAgg132
 z53 := Tryz.sizeOf132
 v53 := Tryz.zeroValue132
 t171 := Tryz.underlying210
 a171 := Tryz.isAgg210
 z171 := Tryz.sizeOf210
 v171 := Tryz.zeroValue210
 t173 := Tryz.underlying213
 a173 := Tryz.isAgg213
 z173 := Tryz.sizeOf213
 v173 := Tryz.zeroValue213
 t212 := Tryz.underlying218
 a212 := Tryz.isAgg218
 z212 := Tryz.sizeOf218
 v212 := Tryz.zeroValue218
 t213 := Tryz.underlying219
 a213 := Tryz.isAgg219
 z213 := Tryz.sizeOf219
 t232 := Tryz.underlying224
 a232 := Tryz.isAgg224
 z232 := Tryz.sizeOf224
 v232 := Tryz.zeroValue224
 t233 := Tryz.underlying225
 a233 := Tryz.isAgg225
 z233 := Tryz.sizeOf225
 v233 := Tryz.zeroValue225
 g17 := by kernel_rfl
 g18 := by kernel_rfl
 g19 := by kernel_rfl
 i0 := by kernel_rfl
 i2 := by kernel_rfl
 i3 := by kernel_rfl
 i4 := by kernel_rfl
 i5 := by kernel_rfl
 i9 := by kernel_rfl
 i20 := by kernel_rfl
 i37 := by kernel_rfl
 i46 := by kernel_rfl
 i51 := by kernel_rfl
 i53 := by kernel_rfl
 i171 := by kernel_rfl
 i173 := by kernel_rfl
 i212 := by kernel_rfl
 i232 := by kernel_rfl
 i233 := by kernel_rfl
 m17 := by kernel_rfl
 m18 := by kernel_rfl
 m19 := by kernel_rfl }
open Go.RowKit Go.Sort Go.Lib in
theorem Tryz.strconv_FormatInt_10 (n : Int) (h0 : -9223372036854775808 ≤ n) (h1 : n ≤ 9223372036854775807) (w : World) (htab : Lib.TabIs Tryz.prog w "internal/strconv.uint64pow10" .u64 Lib.pow10Tab) :
 Calls Tryz.prog 177 #[.int .i64 n, .int .i64 10] w fun e w' => e = .returned (.string ⟨(Lib.itoa n).toArray⟩) ∧ ∃ k os, w' = grow (w.drewN k) os := Any.strconv_FormatInt_10 Tryz.laysM173 n h0 h1 w htab
def Tryz.lays173_ren : Go.Shelf.Ren := ⟨fun | 173 => 177 | 246 => 192 | 283 => 201 | 284 => 202 | 285 => 203 | 286 => 204 | 129 => 207 | 317 => 206 | 318 => 208 | 319 => 209 | 320 => 210 | 337 => 212 | 338 => 213 | n => n, fun | 2 => 2 | 3 => 3 | 9 => 9 | 4 => 4 | 171 => 210 | 0 => 0 | 53 => 132 | 37 => 80 | 5 => 5 | 173 => 213 | 212 => 218 | 51 => 188 | 20 => 20 | 213 => 219 | 46 => 167 | 232 => 224 | 233 => 225 | n => n, fun | 17 => 5 | 18 => 6 | 19 => 7 | n => n⟩
def Tryz.lays247_ren : Go.Shelf.Ren := ⟨fun | 247 => 141 | 287 => 156 | 321 => 183 | 322 => 184 | n => n, fun | 9 => 9 | 3 => 3 | 2 => 2 | 75 => 25 | 4 => 4 | 167 => 164 | 5 => 5 | 53 => 132 | 175 => 165 | 46 => 167 | 37 => 80 | 0 => 0 | 21 => 21 | 80 => 86 | n => n, fun | n => n⟩
def Tryz.laysM316_ren : Go.Shelf.Ren := ⟨fun | 316 => 185 | n => n, fun | 9 => 9 | 3 => 3 | 4 => 4 | 37 => 80 | 0 => 0 | 127 => 122 | 5 => 5 | n => n, fun | n => n⟩
def Tryz.laysM279_ren : Go.Shelf.Ren := ⟨fun | 279 => 157 | 316 => 185 | n => n, fun | 9 => 9 | 168 => 168 | 75 => 25 | 210 => 182 | 3 => 3 | 4 => 4 | 37 => 80 | 0 => 0 | 127 => 122 | 80 => 86 | 5 => 5 | n => n, fun | 15 => 2 | n => n⟩
def Tryz.laysC245_ren : Go.Shelf.Ren := ⟨fun | 245 => 142 | 279 => 157 | 280 => 158 | 281 => 159 | 282 => 160 | 316 => 185 | 171 => 187 | 205 => 186 | 243 => 194 | 246 => 192 | 283 => 201 | 284 => 202 | 285 => 203 | 286 => 204 | 129 => 207 | 317 => 206 | 318 => 208 | 319 => 209 | 320 => 210 | 337 => 212 | 338 => 213 | n => n, fun | 9 => 9 | 3 => 3 | 75 => 25 | 167 => 164 | 4 => 4 | 168 => 168 | 210 => 182 | 37 => 80 | 0 => 0 | 127 => 122 | 145 => 195 | 143 => 193 | 2 => 2 | 171 => 210 | 53 => 132 | 5 => 5 | 173 => 213 | 212 => 218 | 51 => 188 | 20 => 20 | 213 => 219 | 46 => 167 | 232 => 224 | 233 => 225 | 80 => 86 | n => n, fun | 15 => 2 | 16 => 3 | 17 => 5 | 18 => 6 | 19 => 7 | n => n⟩
def Tryz.lays321_ren : Go.Shelf.Ren := ⟨fun | 321 => 183 | n => n, fun | 5 => 5 | n => n, fun | n => n⟩
def Tryz.lays287_ren : Go.Shelf.Ren := ⟨fun | 287 => 156 | 321 => 183 | 322 => 184 | n => n, fun | 9 => 9 | 3 => 3 | 53 => 132 | 75 => 25 | 4 => 4 | 167 => 164 | 5 => 5 | 46 => 167 | 37 => 80 | 0 => 0 | 21 => 21 | 80 => 86 | n => n, fun | n => n⟩
def Tryz.laysC247_ren : Go.Shelf.Ren := ⟨fun | 247 => 141 | 287 => 156 | 321 => 183 | 322 => 184 | n => n, fun | 9 => 9 | 3 => 3 | 2 => 2 | 75 => 25 | 4 => 4 | 167 => 164 | 5 => 5 | 53 => 132 | 175 => 165 | 46 => 167 | 37 => 80 | 0 => 0 | 21 => 21 | 80 => 86 | n => n, fun | n => n⟩
def Tryz.laysM280_ren : Go.Shelf.Ren := ⟨fun | 280 => 158 | 316 => 185 | n => n, fun | 9 => 9 | 168 => 168 | 75 => 25 | 210 => 182 | 3 => 3 | 4 => 4 | 37 => 80 | 0 => 0 | 127 => 122 | 80 => 86 | 5 => 5 | n => n, fun | 16 => 3 | n => n⟩
def Tryz.laysC174_ren : Go.Shelf.Ren := ⟨fun | 174 => 113 | 247 => 141 | 245 => 142 | 287 => 156 | 279 => 157 | 280 => 158 | 281 => 159 | 282 => 160 | 321 => 183 | 322 => 184 | 316 => 185 | 171 => 187 | 205 => 186 | 243 => 194 | 246 => 192 | 283 => 201 | 284 => 202 | 285 => 203 | 286 => 204 | 129 => 207 | 317 => 206 | 318 => 208 | 319 => 209 | 320 => 210 | 337 => 212 | 338 => 213 | n => n, fun | 9 => 9 | 3 => 3 | 2 => 2 | 75 => 25 | 85 => 145 | 4 => 4 | 167 => 164 | 5 => 5 | 53 => 132 | 175 => 165 | 46 => 167 | 168 => 168 | 37 => 80 | 0 => 0 | 210 => 182 | 21 => 21 | 127 => 122 | 145 => 195 | 143 => 193 | 171 => 210 | 173 => 213 | 212 => 218 | 51 => 188 | 20 => 20 | 213 => 219 | 232 => 224 | 233 => 225 | 80 => 86 | n => n, fun | 15 => 2 | 16 => 3 | 17 => 5 | 18 => 6 | 19 => 7 | n => n⟩
theorem Tryz.laysC174 : Go.Proofs.LaysC.n174 Tryz.prog Tryz.laysC174_ren := {
 mixed := by kernel_rfl
 f129 := Tryz.func207.trans (congrArg some (by kernel_rfl))
 f171 := Tryz.func187.trans (congrArg some (by kernel_rfl))
 f174 := Tryz.func113.trans (congrArg some (by kernel_rfl))
 f205 := Tryz.func186.trans (congrArg some (by kernel_rfl))
 f243 := Tryz.func194.trans (congrArg some (by kernel_rfl))
 f245 := Tryz.func142.trans (congrArg some (by kernel_rfl))
 f246 := Tryz.func192.trans (congrArg some (by kernel_rfl))
 f247 := Tryz.func141.trans (congrArg some (by kernel_rfl))
 f279 := Tryz.func157.trans (congrArg some (by kernel_rfl))
 f280 := Tryz.func158.trans (congrArg some (by kernel_rfl))
 f281 := Tryz.func159.trans (congrArg some (by kernel_rfl))
 f282 := Tryz.func160.trans (congrArg some (by kernel_rfl))
 f283 := Tryz.func201.trans (congrArg some (by kernel_rfl))
 f284 := Tryz.func202.trans (congrArg some (by kernel_rfl))
 f285 := Tryz.func203.trans (congrArg some (by kernel_rfl))
 f286 := Tryz.func204.trans (congrArg some (by kernel_rfl))
 f287 := Tryz.func156.trans (congrArg some (by kernel_rfl))
 f316 := Tryz.func185.trans (congrArg some (by kernel_rfl))
 f317 := Tryz.func206.trans (congrArg some (by kernel_rfl))
 f318 := Tryz.func208.trans (congrArg some (by kernel_rfl))
 f319 := Tryz.func209.trans (congrArg some (by kernel_rfl))
 f320 := Tryz.func210.trans (congrArg some (by kernel_rfl))
 f321 := Tryz.func183.trans (congrArg some (by kernel_rfl))
 f322 := Tryz.func184.trans (congrArg some (by kernel_rfl))
 f337 := Tryz.func212.trans (congrArg some (by kernel_rfl))
 f338 := Tryz.func213.trans (congrArg some (by kernel_rfl))
 t0 := Tryz.underlying0
 a0 := Tryz.isAgg0
 z0 := Tryz.sizeOf0
 v0 := Tryz.zeroValue0
 t2 := Tryz.underlying2
 a2 := Tryz.isAgg2
 z2 := Tryz.sizeOf2
 v2 := Tryz.zeroValue2
 t3 := Tryz.underlying3
 a3 := Tryz.isAgg3
 z3 := Tryz.sizeOf3
 v3 := Tryz.zeroValue3
 t4 := Tryz.underlying4
 a4 := Tryz.isAgg4
 z4 := Tryz.sizeOf4
 v4 := Tryz.zeroValue4
 t5 := Tryz.underlying5
 a5 := Tryz.isAgg5
 z5 := Tryz.sizeOf5
 v5 := Tryz.zeroValue5
 t9 := Tryz.underlying9
 a9 := Tryz.isAgg9
 z9 := Tryz.sizeOf9
 v9 := Tryz.zeroValue9
 t20 := Tryz.underlying20
 a20 := Tryz.isAgg20
 z20 := Tryz.sizeOf20
 v20 := Tryz.zeroValue20
 t21 := Tryz.underlying21
 a21 := Tryz.isAgg21
 z21 := Tryz.sizeOf21
 v21 := Tryz.zeroValue21
 t37 := Tryz.underlying80
 a37 := Tryz.isAgg80
 z37 := Tryz.sizeOf80
 v37 := Tryz.zeroValue80
 t46 := Tryz.underlying167
 a46 := Tryz.isAgg167
 z46 := Tryz.sizeOf167
 v46 := Tryz.zeroValue167
 t51 := Tryz.underlying188
 a51 := Tryz.isAgg188
 z51 := Tryz.sizeOf188
 v51 := Tryz.zeroValue188
 t53 := Tryz.underlying132
 a53 := Tryz.isAgg132
 z53 := Tryz.sizeOf132
 v53 := Tryz.zeroValue132
 t75 := Tryz.underlying25
 a75 := Tryz.isAgg25
 z75 := Tryz.sizeOf25
 v75 := Tryz.zeroValue25
 t85 := Tryz.underlying145
 a85 := Tryz.isAgg145
 z85 := Tryz.sizeOf145
 v85 := Tryz.zeroValue145
 t127 := Tryz.underlying122
 a127 := Tryz.isAgg122
 z127 := Tryz.sizeOf122
 v127 := Tryz.zeroValue122
 t143 := Tryz.underlying193
 a143 := Tryz.isAgg193
 z143 := Tryz.sizeOf193
 v143 := Tryz.zeroValue193
 t145 := Tryz.underlying195
 a145 := Tryz.isAgg195
 z145 := Tryz.sizeOf195
 v145 := Tryz.zeroValue195
 t167 := Tryz.underlying164
 a167 := Tryz.isAgg164
 z167 := Tryz.sizeOf164
 v167 := Tryz.zeroValue164
 t168 := Tryz.underlying168
 a168 := Tryz.isAgg168
 z168 := Tryz.sizeOf168
 v168 := Tryz.zeroValue168
 t171 := Tryz.underlying210
 a171 := Tryz.isAgg210
 z171 := Tryz.sizeOf210
 v171 := Tryz.zeroValue210
 t173 := Tryz.underlying213
 a173 := Tryz.isAgg213
 z173 := Tryz.sizeOf213
 v173 := Tryz.zeroValue213
 t175 := Tryz.underlying165
 a175 := Tryz.isAgg165
 z175 := Tryz.sizeOf165
 v175 := Tryz.zeroValue165
 t210 := Tryz.underlying182
 a210 := Tryz.isAgg182
 z210 := Tryz.sizeOf182
 v210 := Tryz.zeroValue182
 t212 := Tryz.underlying218
 a212 := Tryz.isAgg218
 z212 := Tryz.sizeOf218
 v212 := Tryz.zeroValue218
 t213 := Tryz.underlying219
 a213 := Tryz.isAgg219
 z213 := Tryz.sizeOf219
 t232 := Tryz.underlying224
 a232 := Tryz.isAgg224
 z232 := Tryz.sizeOf224
 v232 := Tryz.zeroValue224
 t233 := Tryz.underlying225
 a233 := Tryz.isAgg225
 z233 := Tryz.sizeOf225
 v233 := Tryz.zeroValue225
 g15 := by kernel_rfl
 g16 := by kernel_rfl
 g17 := by kernel_rfl
 g18 := by kernel_rfl
 g19 := by kernel_rfl
 t80 := Tryz.underlying86
 a80 := Tryz.isAgg86
 z80 := Tryz.sizeOf86
 v80 := Tryz.zeroValue86
 i0 := by kernel_rfl
 i2 := by kernel_rfl
 i3 := by kernel_rfl
 i4 := by kernel_rfl
 i5 := by kernel_rfl
 i9 := by kernel_rfl
 i20 := by kernel_rfl
 i21 := by kernel_rfl
 i37 := by kernel_rfl
 i46 := by kernel_rfl
 i51 := by kernel_rfl
 i53 := by kernel_rfl
 i75 := by kernel_rfl
 i80 := by kernel_rfl
 i85 := by kernel_rfl
 i127 := by kernel_rfl
 i143 := by kernel_rfl
 i145 := by kernel_rfl
 i167 := by kernel_rfl
 i168 := by kernel_rfl
 i171 := by kernel_rfl
 i173 := by kernel_rfl
 i175 := by kernel_rfl
 i210 := by kernel_rfl
 i212 := by kernel_rfl
 i232 := by kernel_rfl
 i233 := by kernel_rfl
 m15 := by kernel_rfl
 m16 := by kernel_rfl
 m17 := by kernel_rfl
 m18 := by kernel_rfl
 m19 := by kernel_rfl
 c0 := by kernel_rfl
 c2 := by kernel_rfl
 c3 := by kernel_rfl
 c4 := by kernel_rfl
 c5 := by kernel_rfl
 c9 := by kernel_rfl
 c20 := by kernel_rfl
 c21 := by kernel_rfl
 c37 := by kernel_rfl
 c46 := by kernel_rfl
 c51 := by kernel_rfl
 c53 := by kernel_rfl
 c75 := by kernel_rfl
 c80 := by kernel_rfl
 c85 := by kernel_rfl
 c127 := by kernel_rfl
 c143 := by kernel_rfl
 c145 := by kernel_rfl
 c167 := by kernel_rfl
 c168 := by kernel_rfl
 c171 := by kernel_rfl
 c173 := by kernel_rfl
 c175 := by kernel_rfl
 c210 := by kernel_rfl
 c212 := by kernel_rfl
 c213 := by kernel_rfl
 c232 := by kernel_rfl
 c233 := by kernel_rfl }
open Go.RowKit in
theorem Tryz.strconv_ParseInt_10_at64_ok (s : ByteArray) (hmax : s.size ≤ 9223372036854775806) (v : Int) (h : Lib.parseIntB 64 s.data.toList = .ok v) (w : World) :
 Calls Tryz.prog 113 #[.string s, .int .i64 10, .int .i64 64] w fun e w' => e = .returned (.tuple #[.int .i64 v, .nilIface]) ∧ (w' = w ∨ ∃ t, w' = Lib.bytesWorld w 5 t) := Any.strconv_ParseInt_10_at64_ok Tryz.laysC174 s hmax v h w
open Go.RowKit in
theorem Tryz.strconv_ParseInt_10_at64_range (s : ByteArray) (hlim : s.size ≤ 281474976710656) (h : Lib.parseIntB 64 s.data.toList = .range) (ev : Value) (w : World) (hv : w.cell? ⟨3, 0, none⟩ = some ev) (hev : ev = .nilIface ∨ ∃ te pe, ev = .iface te pe) :
 Calls Tryz.prog 113 #[.string s, .int .i64 10, .int .i64 64] w fun e w' => ∃ N, e = .returned (.tuple #[.int .i64 (Lib.intSat 64 s.data.toList), .iface 168 (.pointer (some ⟨N, 0, none⟩))]) ∧ w.heap.size ≤ N ∧ w'.heap[N]? = some (.cells #[.string ⟨#[80, 97, 114, 115, 101, 73, 110, 116]⟩, .string s, ev] 182 (0, 0)) ∧ Below w.heap.size w w' := Any.strconv_ParseInt_10_at64_range Tryz.laysC174 s hlim h ev w hv hev
def Tryz.lays217_ren : Go.Shelf.Ren := ⟨fun | 217 => 138 | 266 => 154 | n => n, fun | 9 => 9 | 5 => 5 | 3 => 3 | n => n, fun | n => n⟩
def Tryz.lays224_ren : Go.Shelf.Ren := ⟨fun | 224 => 181 | n => n, fun | 3 => 3 | n => n, fun | n => n⟩
def Tryz.lays314_ren : Go.Shelf.Ren := ⟨fun | 314 => 193 | n => n, fun | 9 => 9 | 51 => 188 | 3 => 3 | 4 => 4 | 5 => 5 | 46 => 167 | n => n, fun | n => n⟩
def Tryz.lays267_ren : Go.Shelf.Ren := ⟨fun | 267 => 182 | 314 => 193 | n => n, fun | 9 => 9 | 3 => 3 | 146 => 191 | 51 => 188 | 4 => 4 | 5 => 5 | 46 => 167 | n => n, fun | n => n⟩
def Tryz.lays219_ren : Go.Shelf.Ren := ⟨fun | 219 => 155 | 217 => 138 | 225 => 180 | 224 => 181 | 267 => 182 | 266 => 154 | 314 => 193 | n => n, fun | 9 => 9 | 3 => 3 | 4 => 4 | 5 => 5 | 46 => 167 | 146 => 191 | 51 => 188 | n => n, fun | 1 => 1 | n => n⟩
def Tryz.lays220_ren : Go.Shelf.Ren := ⟨fun | 220 => 140 | 219 => 155 | 217 => 138 | 225 => 180 | 224 => 181 | 267 => 182 | 266 => 154 | 314 => 193 | n => n, fun | 9 => 9 | 4 => 4 | 3 => 3 | 5 => 5 | 46 => 167 | 146 => 191 | 51 => 188 | n => n, fun | 1 => 1 | n => n⟩
def Tryz.lays145_ren : Go.Shelf.Ren := ⟨fun | 145 => 109 | 220 => 140 | 219 => 155 | 217 => 138 | 225 => 180 | 224 => 181 | 267 => 182 | 266 => 154 | 314 => 193 | n => n, fun | 9 => 9 | 4 => 4 | 59 => 141 | 3 => 3 | 5 => 5 | 46 => 167 | 146 => 191 | 51 => 188 | n => n, fun | 1 => 1 | n => n⟩
theorem Tryz.lays145 : Go.Proofs.Lays.n145 Tryz.prog Tryz.lays145_ren := {
 mixed := by kernel_rfl
 f145 := Tryz.func109.trans (congrArg some (by kernel_rfl))
 f217 := Tryz.func138.trans (congrArg some (by kernel_rfl))
 f219 := Tryz.func155.trans (congrArg some (by kernel_rfl))
 f220 := Tryz.func140.trans (congrArg some (by kernel_rfl))
 f224 := Tryz.func181.trans (congrArg some (by kernel_rfl))
 f225 := Tryz.func180.trans (congrArg some (by kernel_rfl))
 f266 := Tryz.func154.trans (congrArg some (by kernel_rfl))
 f267 := Tryz.func182.trans (congrArg some (by kernel_rfl))
 f314 := Tryz.func193.trans (congrArg some (by kernel_rfl))
 t3 := Tryz.underlying3
 a3 := Tryz.isAgg3
 z3 := Tryz.sizeOf3
 v3 := Tryz.zeroValue3
 t4 := Tryz.underlying4
 a4 := Tryz.isAgg4
 z4 := Tryz.sizeOf4
 v4 := Tryz.zeroValue4
 t5 := Tryz.underlying5
 a5 := Tryz.isAgg5
 z5 := Tryz.sizeOf5
 v5 := Tryz.zeroValue5
 t9 := Tryz.underlying9
 a9 := Tryz.isAgg9
 z9 := Tryz.sizeOf9
 v9 := Tryz.zeroValue9
 t46 := Tryz.underlying167
 a46 := Tryz.isAgg167
 z46 := Tryz.sizeOf167
 v46 := Tryz.zeroValue167
 t51 := Tryz.underlying188
 a51 := Tryz.isAgg188
 z51 := Tryz.sizeOf188
 v51 := Tryz.zeroValue188
 t59 := Tryz.underlying141
 a59 := Tryz.isAgg141
 z59 := Tryz.sizeOf141
 v59 := Tryz.zeroValue141
 t146 := Tryz.underlying191
 a146 := Tryz.isAgg191
 z146 := Tryz.sizeOf191
 v146 := Tryz.zeroValue191
 g1 := by kernel_rfl }
open Go.RowKit Go.Lib in
theorem Tryz.strings_Cut (s sep : ByteArray) (m : Int) (w : World) (hs : s.size < 4294967281) (hm : w.cell? ⟨1, 0, none⟩ = some (.int .i64 m)) :
 Calls Tryz.prog 109 #[.string s, .string sep] w fun e w' => e = .returned (.tuple #[.string ⟨(Lib.cut s.data.toList sep.data.toList).1.toArray⟩, .string ⟨(Lib.cut s.data.toList sep.data.toList).2.1.toArray⟩, .bool (Lib.cut s.data.toList sep.data.toList).2.2]) ∧ ∃ n, w' = w.drewN n := Any.strings_Cut Tryz.lays145 s sep m w hs hm
def Tryz.laysM219_ren : Go.Shelf.Ren := ⟨fun | 219 => 155 | 217 => 138 | 225 => 180 | 224 => 181 | 267 => 182 | 266 => 154 | 314 => 193 | n => n, fun | 9 => 9 | 3 => 3 | 4 => 4 | 5 => 5 | 46 => 167 | 146 => 191 | 51 => 188 | n => n, fun | 1 => 1 | n => n⟩
def Tryz.laysM220_ren : Go.Shelf.Ren := ⟨fun | 220 => 140 | 219 => 155 | 217 => 138 | 225 => 180 | 224 => 181 | 267 => 182 | 266 => 154 | 314 => 193 | n => n, fun | 9 => 9 | 4 => 4 | 3 => 3 | 5 => 5 | 46 => 167 | 146 => 191 | 51 => 188 | n => n, fun | 1 => 1 | n => n⟩
def Tryz.laysM145_ren : Go.Shelf.Ren := ⟨fun | 145 => 109 | 220 => 140 | 219 => 155 | 217 => 138 | 225 => 180 | 224 => 181 | 267 => 182 | 266 => 154 | 314 => 193 | n => n, fun | 9 => 9 | 4 => 4 | 59 => 141 | 3 => 3 | 5 => 5 | 46 => 167 | 146 => 191 | 51 => 188 | n => n, fun | 1 => 1 | n => n⟩
def Tryz.lays206_ren : Go.Shelf.Ren := ⟨fun | 206 => 139 | n => n, fun | 9 => 9 | 4 => 4 | 3 => 3 | n => n, fun | n => n⟩
def Tryz.lays99_ren : Go.Shelf.Ren := ⟨fun | 99 => 108 | 206 => 139 | n => n, fun | 9 => 9 | 4 => 4 | 3 => 3 | n => n, fun | n => n⟩
theorem Tryz.lays99 : Go.Proofs.Lays.n99 Tryz.prog Tryz.lays99_ren := {
 mixed := by kernel_rfl
 f99 := Tryz.func108.trans (congrArg some (by kernel_rfl))
 f206 := Tryz.func139.trans (congrArg some (by kernel_rfl))
 t3 := Tryz.underlying3
 a3 := Tryz.isAgg3
 z3 := Tryz.sizeOf3
 v3 := Tryz.zeroValue3
 t4 := Tryz.underlying4
 a4 := Tryz.isAgg4
 z4 := Tryz.sizeOf4
 v4 := Tryz.zeroValue4
 t9 := Tryz.underlying9
 a9 := Tryz.isAgg9
 z9 := Tryz.sizeOf9
 v9 := Tryz.zeroValue9 }
open Go.RowKit Go.Lib in
theorem Tryz.strings_HasPrefix (s p : ByteArray) (w : World) :
 Calls Tryz.prog 108 #[.string s, .string p] w fun e w' => e = .returned (.bool (Lib.hasPrefix s.data.toList p.data.toList)) ∧ w' = w := Any.strings_HasPrefix Tryz.lays99 s p w
def Tryz.lays157_ren : Go.Shelf.Ren := ⟨fun | 157 => 149 | 229 => 174 | 199 => 175 | 261 => 191 | 311 => 199 | 312 => 200 | n => n, fun | 9 => 9 | 31 => 109 | 3 => 3 | 5 => 5 | 4 => 4 | 119 => 173 | 0 => 0 | 40 => 175 | 152 => 185 | 21 => 21 | 154 => 187 | 51 => 188 | 141 => 190 | 196 => 202 | 193 => 199 | 198 => 205 | 49 => 203 | 194 => 200 | 201 => 208 | 226 => 215 | 46 => 167 | 227 => 216 | n => n, fun | 0 => 0 | 6 => 4 | n => n⟩
theorem Tryz.lays157 : Go.Proofs.Lays.n157 Tryz.prog Tryz.lays157_ren := {
 mixed := by kernel_rfl
 f157 := Tryz.func149.trans (congrArg some (by kernel_rfl))
 f199 := Tryz.func175.trans (congrArg some (by kernel_rfl))
 f229 := Tryz.func174.trans (congrArg some (by kernel_rfl))
 f261 := Tryz.func191.trans (congrArg some (by kernel_rfl))
 f311 := Tryz.func199.trans (congrArg some (by kernel_rfl))
 f312 := Tryz.func200.trans (congrArg some (by kernel_rfl))
 t0 := Tryz.underlying0
 a0 := Tryz.isAgg0
 z0 := Tryz.sizeOf0
 v0 := Tryz.zeroValue0
 t3 := Tryz.underlying3
 a3 := Tryz.isAgg3
 z3 := Tryz.sizeOf3
 v3 := Tryz.zeroValue3
 t4 := Tryz.underlying4
 a4 := Tryz.isAgg4
 z4 := Tryz.sizeOf4
 v4 := Tryz.zeroValue4
 t5 := Tryz.underlying5
 a5 := Tryz.isAgg5
 z5 := Tryz.sizeOf5
 v5 := Tryz.zeroValue5
 t9 := Tryz.underlying9
 a9 := Tryz.isAgg9
 z9 := Tryz.sizeOf9
 v9 := Tryz.zeroValue9
 t21 := Tryz.underlying21
 a21 := Tryz.isAgg21
 z21 := Tryz.sizeOf21
 v21 := Tryz.zeroValue21
 t31 := Tryz.underlying109
 a31 := Tryz.isAgg109
 z31 := Tryz.sizeOf109
 v31 := Tryz.zeroValue109
 t40 := Tryz.underlying175
 a40 := Tryz.isAgg175
 z40 := Tryz.sizeOf175
 v40 := Tryz.zeroValue175
 t46 := Tryz.underlying167
 a46 := Tryz.isAgg167
 z46 := Tryz.sizeOf167
 v46 := Tryz.zeroValue167
 t49 := Tryz.underlying203
 a49 := Tryz.isAgg203
 z49 := Tryz.sizeOf203
 v49 := Tryz.zeroValue203
 t51 := Tryz.underlying188
 a51 := Tryz.isAgg188
 z51 := Tryz.sizeOf188
 v51 := Tryz.zeroValue188
 t119 := Tryz.underlying173
 a119 := Tryz.isAgg173
 z119 := Tryz.sizeOf173
 t141 := Tryz.underlying190
 a141 := Tryz.isAgg190
 z141 := Tryz.sizeOf190
 v141 := Tryz.zeroValue190
 t152 := Tryz.underlying185
 a152 := Tryz.isAgg185
 z152 := Tryz.sizeOf185
 v152 := Tryz.zeroValue185
 t154 := Tryz.underlying187
 a154 := Tryz.isAgg187
 z154 := Tryz.sizeOf187
 v154 := Tryz.zeroValue187
 t193 := Tryz.underlying199
 a193 := Tryz.isAgg199
 z193 := Tryz.sizeOf199
 v193 := Tryz.zeroValue199
 t194 := Tryz.underlying200
 a194 := Tryz.isAgg200
 z194 := Tryz.sizeOf200
 v194 := Tryz.zeroValue200
 t196 := Tryz.underlying202
 a196 := Tryz.isAgg202
 z196 := Tryz.sizeOf202
 v196 := Tryz.zeroValue202
 t198 := Tryz.underlying205
 a198 := Tryz.isAgg205
 z198 := Tryz.sizeOf205
 v198 := Tryz.zeroValue205
 t201 := Tryz.underlying208
 a201 := Tryz.isAgg208
 z201 := Tryz.sizeOf208
 v201 := Tryz.zeroValue208
 t226 := Tryz.underlying215
 a226 := Tryz.isAgg215
 z226 := Tryz.sizeOf215
 v226 := Tryz.zeroValue215
 t227 := Tryz.underlying216
 a227 := Tryz.isAgg216
 z227 := Tryz.sizeOf216
 v227 := Tryz.zeroValue216
 g0 := by kernel_rfl
 g6 := by kernel_rfl }
open Go.RowKit Go.Lib in
theorem Tryz.strings_Fields (s : ByteArray) (w : World) (hs : s.size < 4294967281) (hascii : ∀ (j : Nat) b, s.data.toList[j]? = some b → b.toNat < 128) (htab : Lib.TabIs Tryz.prog w "strings.asciiSpace" .u8 Lib.asciiSpaceTab) :
 Calls Tryz.prog 149 #[.string s] w fun e w' =>
  e = .returned (.slice (some ⟨w.heap.size, 0, none⟩) (Lib.fields s.data.toList).length (Lib.fields s.data.toList).length) ∧ w' = w.alloc (.cells ((Lib.fields s.data.toList).map fun l => Value.string ⟨l.toArray⟩).toArray 9) := Any.strings_Fields Tryz.lays157 (by kernel_rfl) (by kernel_rfl) s w hs hascii htab
def Tryz.laysM157_ren : Go.Shelf.Ren := ⟨fun | 157 => 149 | 229 => 174 | 199 => 175 | 261 => 191 | 311 => 199 | 312 => 200 | n => n, fun | 9 => 9 | 31 => 109 | 3 => 3 | 5 => 5 | 4 => 4 | 119 => 173 | 0 => 0 | 40 => 175 | 152 => 185 | 21 => 21 | 154 => 187 | 51 => 188 | 141 => 190 | 196 => 202 | 193 => 199 | 198 => 205 | 49 => 203 | 194 => 200 | 201 => 208 | 226 => 215 | 46 => 167 | 227 => 216 | n => n, fun | 0 => 0 | 6 => 4 | n => n⟩
def Tryz.lays199_ren : Go.Shelf.Ren := ⟨fun | 199 => 175 | 261 => 191 | 311 => 199 | 312 => 200 | n => n, fun | 21 => 21 | 4 => 4 | 51 => 188 | 141 => 190 | 0 => 0 | 196 => 202 | 193 => 199 | 3 => 3 | 198 => 205 | 49 => 203 | 194 => 200 | 201 => 208 | 226 => 215 | 46 => 167 | 227 => 216 | n => n, fun | 6 => 4 | n => n⟩
def Tryz.lays311_ren : Go.Shelf.Ren := ⟨fun | 311 => 199 | n => n, fun | 193 => 199 | 49 => 203 | 4 => 4 | 3 => 3 | 0 => 0 | 226 => 215 | 198 => 205 | 46 => 167 | n => n, fun | n => n⟩
def Tryz.lays261_ren : Go.Shelf.Ren := ⟨fun | 261 => 191 | 311 => 199 | 312 => 200 | n => n, fun | 141 => 190 | 21 => 21 | 4 => 4 | 0 => 0 | 196 => 202 | 193 => 199 | 3 => 3 | 51 => 188 | 198 => 205 | 49 => 203 | 194 => 200 | 201 => 208 | 226 => 215 | 46 => 167 | 227 => 216 | n => n, fun | n => n⟩
def Tryz.lays229_ren : Go.Shelf.Ren := ⟨fun | 229 => 174 | n => n, fun | 9 => 9 | 40 => 175 | 31 => 109 | 152 => 185 | 3 => 3 | 0 => 0 | 4 => 4 | 21 => 21 | 154 => 187 | n => n, fun | n => n⟩
def Tryz.lays312_ren : Go.Shelf.Ren := ⟨fun | 312 => 200 | n => n, fun | 194 => 200 | 51 => 188 | 4 => 4 | 3 => 3 | 0 => 0 | 227 => 216 | 201 => 208 | 46 => 167 | n => n, fun | n => n⟩
def Tryz.lays109_ren : Go.Shelf.Ren := ⟨fun | 109 => 148 | n => n, fun | 31 => 109 | 9 => 9 | 3 => 3 | 0 => 0 | 4 => 4 | n => n, fun | n => n⟩
def Tryz.lays110_ren : Go.Shelf.Ren := ⟨fun | 110 => 125 | 109 => 148 | n => n, fun | 31 => 109 | 9 => 9 | 4 => 4 | 3 => 3 | 0 => 0 | n => n, fun | n => n⟩
theorem Tryz.lays110 : Go.Proofs.Lays.n110 Tryz.prog Tryz.lays110_ren := {
 mixed := by kernel_rfl
 f109 := Tryz.func148.trans (congrArg some (by kernel_rfl))
 f110 := Tryz.func125.trans (congrArg some (by kernel_rfl))
 t0 := Tryz.underlying0
 a0 := Tryz.isAgg0
 z0 := Tryz.sizeOf0
 v0 := Tryz.zeroValue0
 t3 := Tryz.underlying3
 a3 := Tryz.isAgg3
 z3 := Tryz.sizeOf3
 v3 := Tryz.zeroValue3
 t4 := Tryz.underlying4
 a4 := Tryz.isAgg4
 z4 := Tryz.sizeOf4
 v4 := Tryz.zeroValue4
 t9 := Tryz.underlying9
 a9 := Tryz.isAgg9
 z9 := Tryz.sizeOf9
 v9 := Tryz.zeroValue9
 t31 := Tryz.underlying109
 a31 := Tryz.isAgg109
 z31 := Tryz.sizeOf109
 v31 := Tryz.zeroValue109 }
open Go.Lib in
theorem Tryz.slices_Contains_string (b off n c : Nat) (zs : List ByteArray) (x : ByteArray) (w : World) (hz : n ≤ zs.length) (hbig : n ≤ 9223372036854775807) (hc : ∀ j, j < zs.length → w.cell? ⟨b, off + j, none⟩ = some (.string (zs.getD j ByteArray.empty))) :
 Calls Tryz.prog 125 #[.slice (some ⟨b, off, none⟩) n c, .string x] w fun e w' => e = .returned (.bool (Lib.containsS (zs.take n) x)) ∧ w' = w := Any.slices_Contains_string Tryz.lays110 b off n c zs x w hz hbig hc
open Go.Lib in
theorem Tryz.slices_Contains_string_empty (a : Option Addr) (c : Nat) (x : ByteArray) (w : World) :
 Calls Tryz.prog 125 #[.slice a 0 c, .string x] w fun e w' => e = .returned (.bool false) ∧ w' = w := Any.slices_Contains_string_empty Tryz.lays110 a c x w
end
end Go.Proofs
namespace Go.Proofs.YtfpmgpblhhcpgaaGreatDoor.Hc.Lex
abbrev Bs := List UInt8
def jbE (c : UInt8) : Bool := c == 32 || c == 9 || c == 10 || c == 13
def jaA (c : UInt8) : Bool := (decide (97 ≤ c.toNat) && decide (c.toNat ≤ 122)) || (decide (65 ≤ c.toNat) && decide (c.toNat ≤ 90))
def jav (c : UInt8) : Bool := decide (48 ≤ c.toNat) && decide (c.toNat ≤ 57)
def jaP (c : UInt8) : Bool := jaA c || jav c || c == 95
def ja0 (p : UInt8 → Bool) : Bs → Nat
 | [] => 0
 | c :: t => bif p c then ja0 p t + 1 else 0
inductive Rem where
 | no
 | to (n : Nat)
 | endless
deriving DecidableEq
def jfa (r : Bs) : Rem :=
 if Lib.hasPrefix r [47, 47] then .to (ja0 (fun c => c != 10) r)
 else if Lib.hasPrefix r [47, 42] then (if 0 ≤ Lib.index (r.drop 2) [42, 47] then .to ((Lib.index (r.drop 2) [42, 47]).toNat + 4) else .endless)
 else .no
def twos : List Bs := [[61, 61], [33, 61], [60, 61], [62, 61], [38, 38], [124, 124]]
def ones : Bs := [43, 45, 42, 47, 37, 60, 62, 33, 61, 40, 41, 123, 125, 44, 59, 58, 63, 46]
def jbB (r : Bs) : Nat :=
 if twos.any (fun s => Lib.hasPrefix r s) then 2 else match r with
  | c :: _ => if c ∈ ones then 1 else 0
  | [] => 0
def jdl : Nat → Bs → Nat
 | acc, [] => acc
 | acc, c :: t => jdl (acc * 10 + (c.toNat - 48)) t
def jbT : Bs → Bool
 | [] => false
 | c :: _ => jaA c || c == 95
inductive Ev where
 | skip (n : Nat)
 | tok (k : Nat) (n : Nat)
 | err (n : Nat)
deriving DecidableEq
def jeg : Bs → Ev
 | [] => .err 0
 | c :: t =>
   let r := c :: t
   if jaA c then (if ja0 jaP r > 16 then .err 0 else .tok 1 (ja0 jaP r))
   else if jav c then
    (if jdl 0 (r.take (ja0 jav r)) > 9223372036854775807 ∨ (ja0 jav r > 1 ∧ c = 48) then .err 0
     else if jbT (r.drop (ja0 jav r)) then .err (ja0 jav r) else .tok 2 (ja0 jav r))
   else if jbB r = 0 then .err 0 else .tok 3 (jbB r)
def evL : Bs → Ev
 | [] => .err 0
 | c :: t => if jbE c then .skip 1 else match jfa (c :: t) with
   | .to n => .skip n
   | .endless => .err 0
   | .no => jeg (c :: t)
structure Tk where
 kind : Nat
 text : Bs
 at' : Nat
deriving DecidableEq, Inhabited
abbrev Res := Except Nat (List Tk)
def pre (ts : List Tk) : Res → Res
 | .ok l => .ok (ts ++ l)
 | .error e => .error e
theorem jiQ (r : Res) : pre [] r = r := by cases r <;> rfl
theorem ji9 (a b : List Tk) (r : Res) : pre a (pre b r) = pre (a ++ b) r := by cases r <;> simp [pre]
def jf2 : Nat → Nat → Bs → Res
 | _, p, [] => .ok [⟨0, [], p⟩]
 | 0, p, _ :: _ => .error p
 | f + 1, p, c :: t => match evL (c :: t) with
   | .skip n => jf2 f (p + n) (t.drop (n - 1))
   | .tok k n => pre [⟨k, (c :: t).take n, p⟩] (jf2 f (p + n) (t.drop (n - 1)))
   | .err n => .error (p + n)
theorem jhL : ∀ (f g p : Nat) (r : Bs), r.length ≤ f → r.length ≤ g → jf2 f p r = jf2 g p r
 | 0, 0, _, _, _, _ => rfl
 | f, g, p, [], _, _ => by cases f <;> cases g <;> rfl
 | f + 1, g + 1, p, c :: t, h1, h2 => by
   simp only [List.length_cons] at h1 h2
   unfold jf2
   have : ∀ n q, jf2 f q (t.drop n) = jf2 g q (t.drop n) := fun n q => jhL f g q _ (by simp; omega) (by simp; omega)
   simp only [this]
def jdr (p : Nat) (r : Bs) : Res := jf2 r.length p r
theorem jhm (p : Nat) : jdr p [] = .ok [⟨0, [], p⟩] := rfl
theorem jel (p : Nat) (c : UInt8) (t : Bs) : jdr p (c :: t) = match evL (c :: t) with
 | .skip n => jdr (p + n) (t.drop (n - 1))
 | .tok k n => pre [⟨k, (c :: t).take n, p⟩] (jdr (p + n) (t.drop (n - 1)))
 | .err n => .error (p + n) := by
 unfold jdr
 simp only [List.length_cons, jf2]
 have : ∀ n q, jf2 t.length q (t.drop n) = jf2 (t.drop n).length q (t.drop n) := fun n q => jhL _ _ _ _ (by simp) (Nat.le_refl _)
 simp only [this]
theorem jh1 (c : UInt8) (t : Bs) {n : Nat} (h : 1 ≤ n) : t.drop (n - 1) = (c :: t).drop n := by
 obtain ⟨m, rfl⟩ : ∃ m, n = m + 1 := ⟨n - 1, by omega⟩
 simp
theorem jih {L : Bs} {p n : Nat} {c : UInt8} {t : Bs} (h : L.drop p = c :: t) (he : evL (c :: t) = .skip n) (hn : 1 ≤ n) : jdr p (L.drop p) = jdr (p + n) (L.drop (p + n)) := by
 rw [h, jel, he]
 dsimp only
 rw [jh1 c t hn, ← h, List.drop_drop]
theorem jj2 {L : Bs} {p n k : Nat} {c : UInt8} {t : Bs} (h : L.drop p = c :: t) (he : evL (c :: t) = .tok k n) (hn : 1 ≤ n) :
 jdr p (L.drop p) = pre [⟨k, (L.drop p).take n, p⟩] (jdr (p + n) (L.drop (p + n))) := by
 rw [h, jel, he]
 dsimp only
 rw [jh1 c t hn, ← h, List.drop_drop]
theorem jfA {L : Bs} {p n : Nat} {c : UInt8} {t : Bs} (h : L.drop p = c :: t) (he : evL (c :: t) = .err n) : jdr p (L.drop p) = .error (p + n) := by
 rw [h, jel, he]
theorem jbK (p : UInt8 → Bool) : ∀ r, ja0 p r ≤ r.length
 | [] => Nat.le_refl _
 | c :: t => by unfold ja0; cases p c <;> simp [jbK p t]
theorem jex {p : UInt8 → Bool} {c : UInt8} {t : Bs} (h : p c = true) : 1 ≤ ja0 p (c :: t) := by unfold ja0; rw [h]; simp
theorem jcd {p : UInt8 → Bool} : ∀ {r : Bs} {n : Nat}, n ≤ ja0 p r → (∃ c t, r.drop n = c :: t ∧ p c = true ∧ n < ja0 p r) ∨ (n = ja0 p r ∧ (r.drop n = [] ∨ ∃ c t, r.drop n = c :: t ∧ p c = false))
 | [], n, h => .inr ⟨Nat.le_antisymm h (Nat.zero_le _), .inl (by simp)⟩
 | c :: t, 0, _ => by
   cases h : p c with
   | true => exact .inl ⟨c, t, rfl, h, jex h⟩
   | false => exact .inr ⟨by simp [ja0, h], .inr ⟨c, t, rfl, h⟩⟩
 | c :: t, n + 1, h => by
   cases hc : p c with
   | false => simp [ja0, hc] at h
   | true =>
     simp only [ja0, hc, cond_true] at h ⊢
     rcases jcd (p := p) (r := t) (n := n) (by omega) with ⟨d, u, h1, h2, h3⟩ | ⟨h1, h2⟩
     ·exact .inl ⟨d, u, by simpa using h1, h2, by omega⟩
     ·exact .inr ⟨by omega, by simpa using h2⟩
def Stop (r : Bs) : Prop := r = [] ∨ ∃ c t, r = c :: t ∧ jbE c = false ∧ jfa r = .no
theorem Stop.ev {c : UInt8} {t : Bs} (h : Stop (c :: t)) : evL (c :: t) = jeg (c :: t) := by
 rcases h with h | ⟨d, u, h1, h2, h3⟩
 ·cases h
 ·simp only [List.cons.injEq] at h1
  obtain ⟨rfl, rfl⟩ := h1
  unfold evL
  dsimp only
  rw [h2, h3]
  rfl
theorem hp2 {r : Bs} {a b : UInt8} (h : Lib.hasPrefix r [a, b] = true) : ∃ t, r = a :: b :: t := by
 match r, h with
 | [], h => simp [Lib.hasPrefix] at h
 | [x], h => simp [Lib.hasPrefix, List.isPrefixOf] at h
 | x :: y :: t, h => simp only [Lib.hasPrefix, List.isPrefixOf, Bool.and_eq_true, beq_iff_eq, Bool.and_true] at h; exact ⟨t, by rw [h.1, h.2]⟩
theorem jgS {r : Bs} {n : Nat} (h : jfa r = .to n) : n ≤ r.length ∧ 2 ≤ n := by
 unfold jfa at h
 split at h
 ·rename_i hp
  simp only [Rem.to.injEq] at h
  subst h
  refine ⟨jbK _ _, ?_⟩
  obtain ⟨t, rfl⟩ := hp2 hp
  simp [ja0]
 ·split at h
  ·split at h
   ·rename_i hi
    simp only [Rem.to.injEq] at h
    subst h
    have := Lib.index_room _ _ hi
    simp only [List.length_drop, List.length_cons, List.length_nil] at this
    omega
   ·cases h
  ·cases h
theorem jhj (r : Bs) : jbB r ≤ r.length := by
 unfold jbB
 split
 ·rename_i h
  obtain ⟨x, hx, h⟩ := List.any_eq_true.1 h
  simp only [twos, List.mem_cons, List.not_mem_nil, or_false] at hx
  rcases hx with rfl | rfl | rfl | rfl | rfl | rfl <;> (obtain ⟨t, rfl⟩ := hp2 h; simp)
 ·cases r with
  | nil => simp
  | cons c t => dsimp only; split <;> simp
theorem jg0 {r : Bs} {k n : Nat} (h : jeg r = .tok k n) : 1 ≤ n ∧ n ≤ r.length := by
 cases r with
 | nil => cases h
 | cons c t =>
   unfold jeg at h
   dsimp only at h
   split at h
   ·rename_i hc
    split at h
    ·cases h
    ·simp only [Ev.tok.injEq] at h
     obtain ⟨_, rfl⟩ := h
     exact ⟨jex (by simp [jaP, hc]), jbK _ _⟩
   ·split at h
    ·rename_i hc
     split at h
     ·cases h
     ·split at h
      ·cases h
      ·simp only [Ev.tok.injEq] at h
       obtain ⟨_, rfl⟩ := h
       exact ⟨jex hc, jbK _ _⟩
    ·split at h
     ·cases h
     ·simp only [Ev.tok.injEq] at h
      obtain ⟨_, rfl⟩ := h
      exact ⟨by omega, jhj _⟩
theorem drop_length {L : Bs} {p : Nat} {c : UInt8} {t : Bs} (h : L.drop p = c :: t) : p < L.length ∧ L.length = p + (t.length + 1) := by
 have := congrArg List.length h
 simp only [List.length_drop, List.length_cons] at this
 omega
end Go.Proofs.YtfpmgpblhhcpgaaGreatDoor.Hc.Lex
namespace Go.Proofs.YtfpmgpblhhcpgaaGreatDoor.Hc
theorem JumpT.ghost {σ : Type} {first : (Nat → σ → jaa → Prop) → Prop} {passes : List (Nat × ((Nat → σ → jaa → Prop) → σ → jaa → Prop))} (I : Nat → Nat → σ → jaa → Prop)
 (hf : ∀ jump, (∀ m l s H, I m l s H → jump l s H) → first jump)
 (hb : ∀ p ∈ passes, ∀ jump m s H, I m p.1 s H → (∀ m' l s' H', m' < m → I m' l s' H' → jump l s' H') → p.2 jump s H) : JumpT first passes := by
 refine ⟨fun l s H => ∃ m, I m l s H, fun l s H => leastOf (fun m => I m l s H), hf _ fun m l s H h => ⟨m, h⟩, fun p hp s H hI => ?_⟩
 have hl := leastOf_spec hI
 exact hb p hp _ _ s H hl.1 fun m' l s' H' hlt hI' => ⟨⟨m', hI'⟩, Nat.lt_of_le_of_lt ((leastOf_spec ⟨m', hI'⟩).2 m' hI') hlt⟩
end Go.Proofs.YtfpmgpblhhcpgaaGreatDoor.Hc
namespace Go.Proofs.YtfpmgpblhhcpgaaGreatDoor.Hc.Lex
theorem jfx {p : UInt8 → Bool} : ∀ {r : Bs} {c : UInt8}, c ∈ r.take (ja0 p r) → p c = true
 | [], c, h => by simp at h
 | d :: t, c, h => by
   unfold ja0 at h
   cases hd : p d with
   | false => simp [hd] at h
   | true =>
     simp only [hd, cond_true, List.take_succ_cons, List.mem_cons] at h
     rcases h with rfl | h
     ·exact hd
     ·exact jfx h
theorem jkM : ∀ (l : Bs) (a : Nat), a ≤ jdl a l
 | [], _ => Nat.le_refl _
 | c :: t, a => Nat.le_trans (by omega) (jkM t _)
theorem jnf {M : Nat} (hM : M < 18446744073709551620) : ∀ {l : Bs} {a : Nat}, (∀ c ∈ l, jav c = true) → a ≤ M → Lib.parseUintM M a l = if jdl a l ≤ M then .ok (jdl a l) else .range
 | [], a, _, ha => by unfold Lib.parseUintM jdl; rw [if_pos ha]
 | c :: t, a, h, ha => by
   have hc := h c (List.mem_cons_self ..)
   unfold jav at hc
   simp only [Bool.and_eq_true, decide_eq_true_eq] at hc
   unfold Lib.parseUintM jdl
   rw [if_pos hc]
   have hg := jkM t (a * 10 + (c.toNat - 48))
   split
   ·rw [if_neg (by omega)]
   ·split
    ·rw [if_neg (by omega)]
    ·exact jnf hM (fun x hx => h x (List.mem_cons_of_mem _ hx)) (by omega)
theorem jfe {l : Bs} (h : ∀ c ∈ l, jav c = true) (hne : l ≠ []) : Lib.parseIntB 64 l = if jdl 0 l ≤ 9223372036854775807 then .ok (jdl 0 l : Nat) else .range := by
 match l, hne, h with
 | c :: t, _, h =>
   have hc := h c (List.mem_cons_self ..)
   unfold jav at hc
   simp only [Bool.and_eq_true, decide_eq_true_eq] at hc
   unfold Lib.parseIntB
   dsimp only
   rw [if_neg (by omega)]
   unfold Lib.parseUintB
   rw [if_neg (by simp)]
   rw [show 2 ^ 64 - 1 = 18446744073709551615 by decide, jnf (by omega) h (by omega)]
   rw [show 2 ^ (64 - 1) = 9223372036854775808 by decide]
   by_cases h1 : jdl 0 (c :: t) ≤ 18446744073709551615
   ·rw [if_pos h1]
    dsimp only
    have hn : ¬ c.toNat = 45 := by omega
    by_cases h2 : jdl 0 (c :: t) ≤ 9223372036854775807
    ·rw [if_neg (by intro e; have := e.2; omega), if_neg (fun e => hn e.1), if_neg hn, if_pos h2]
    ·rw [if_pos ⟨hn, by omega⟩, if_neg h2]
   ·rw [if_neg h1]
    dsimp only
    rw [if_neg (by omega)]
theorem jgL : ∀ (r : Bs), (0 ≤ Lib.index r [10] → (Lib.index r [10]).toNat = ja0 (fun c => c != 10) r) ∧ (¬ 0 ≤ Lib.index r [10] → ja0 (fun c => c != 10) r = r.length)
 | [] => by simp [Lib.index, ja0]
 | c :: t => by
   obtain ⟨h1, h2⟩ := jgL t
   have hg := Lib.index_ge t [10]
   unfold Lib.index ja0
   by_cases hc : c = 10
   ·subst hc; simp [List.isPrefixOf]
   ·have e : [(10 : UInt8)].isPrefixOf (c :: t) = false := by simp [List.isPrefixOf]; exact fun e => hc e.symm
    have e2 : (c != 10) = true := by simpa using hc
    rw [e, e2]
    simp only [Bool.false_eq_true, if_false, cond_true]
    split
    ·rename_i h
     have : Lib.index t [10] = -1 := by simpa using h
     refine ⟨fun h => by omega, fun _ => ?_⟩
     rw [h2 (by omega)]; simp
    ·rename_i h
     have : Lib.index t [10] ≠ -1 := by simpa using h
     refine ⟨fun _ => ?_, fun h => by omega⟩
     rw [← h1 (by omega)]; omega
theorem jmr (r : Bs) : (Lib.cut r [10]).1.length = ja0 (fun c => c != 10) r := by
 obtain ⟨h1, h2⟩ := jgL r
 unfold Lib.cut
 split
 ·rename_i h
  have := Lib.index_room _ _ h
  rw [List.length_take, ← h1 h]
  simp only [List.length_cons, List.length_nil] at this
  omega
 ·rename_i h; exact (h2 h).symm
theorem cut_end (r : Bs) : (0 ≤ Lib.index r [42, 47] → (Lib.cut r [42, 47]).2.2 = true ∧ (Lib.cut r [42, 47]).1.length = (Lib.index r [42, 47]).toNat) ∧ (¬ 0 ≤ Lib.index r [42, 47] → (Lib.cut r [42, 47]).2.2 = false) := by
 unfold Lib.cut
 refine ⟨fun h => ?_, fun h => by rw [if_neg h]⟩
 have := Lib.index_room _ _ h
 rw [if_pos h]
 simp only [List.length_cons, List.length_nil] at this
 exact ⟨rfl, by rw [List.length_take]; omega⟩
end Go.Proofs.YtfpmgpblhhcpgaaGreatDoor.Hc.Lex
namespace Go.Proofs.YtfpmgpblhhcpgaaGreatDoor.Hc
set_option maxRecDepth 100000
def Apart (s t : Sl) : Prop := ∀ b, s.a = some (adr b) → t.a ≠ some (adr b)
theorem Apart.symm {s t : Sl} (h : Apart s t) : Apart t s := fun b h1 h2 => h b h2 h1
theorem Vec.poke {H H' : jaa} {T : TypeId} {s : Sl} {vs : List Value} (h : Vec H T s vs) {b n : Nat} {v : Value} {cs : List Value} (hb : s.a = some (adr b)) (hr : Row H b T cs) (hr' : Row H' b T (cs.set n v)) : Vec H' T s (vs.set n v) := by
 refine ⟨by simpa using h.len, ?_, h.lc⟩
 rcases h.own with ⟨h1, _⟩ | ⟨c, sp, h1, h2, h3⟩
 ·rw [h1] at hb; cases hb
 ·rw [h1] at hb; cases hb
  have e : cs = vs ++ sp := by
   unfold Row at hr h2
   rw [hr] at h2
   simp only [Option.some.injEq, Obj.cells.injEq, Array.mk.injEq] at h2
   exact h2.1
  subst e
  rcases Nat.lt_or_ge n vs.length with hn | hn
  ·refine .inr ⟨b, sp, h1, ?_, by simpa using h3⟩
   rw [List.set_append_left _ _ hn] at hr'; exact hr'
  ·refine .inr ⟨b, sp.set (n - vs.length) v, h1, ?_, by simpa using h3⟩
   rw [List.set_append_right _ _ hn] at hr'
   rw [List.set_eq_of_length_le hn]; exact hr'
theorem App_one {T : TypeId} {bytes : Nat} {z : Value} {s x : Sl} {H : jaa} {k : Sl → jaa → Prop} {vs : List Value} {w : Value} (hv : Vec H T s vs) (hx : rdL H x.a [w]) (hxl : x.len = 1)
 (hone : w.oneCell' = true) (hb : bytes ≠ 0) (hcap : (vs.length + 1 + (vs.length + 1) / 4 + 1000) * bytes ≤ 2 ^ 48)
 (hk : ∀ s' H', Vec H' T s' (vs ++ [w]) → s'.len = s.len + 1 → (∃ b cs, s.a = some (adr b) ∧ s'.a = some (adr b) ∧ Row H b T cs ∧ Row H' b T (cs.set s.len w) ∧ Upd (· = b) H H' ∧ H'.size = H.size) ∨ (s'.a = some (adr H.size) ∧ Ext H H' ∧ H.size < H'.size) → k s' H') :
 App T 1 bytes #[z] s x H k := by
 have hlen := hv.len
 refine ⟨[w], hx, fun _ => by simp; omega, fun hfit => ?_, fun hgrow => ?_⟩
 ·rcases hv.own with ⟨h1, h2, h3⟩ | ⟨b, sp, h1, h2, h3⟩
  ·omega
  ·rw [h1]
   dsimp only
   rw [adr_add, Nat.mul_one]
   refine jge h2 (by simp; omega) (by simpa using hone) fun H' hU hs hr => ?_
   obtain ⟨c0, sp', rfl⟩ : ∃ c0 sp', sp = c0 :: sp' := by
    cases sp with
    | nil => simp at h3; omega
    | cons c0 sp' => exact ⟨c0, sp', rfl⟩
   have e1 : (vs ++ c0 :: sp').take (s.len + 0) ++ [w] ++ (vs ++ c0 :: sp').drop (s.len + 0 + [w].length) = vs ++ w :: sp' := by
    rw [Nat.add_zero, hlen, List.take_left, List.length_singleton, List.drop_append, List.drop_eq_nil_of_le (by omega)]
    simp
   rw [e1] at hr
   have e2 : (vs ++ c0 :: sp').set s.len w = vs ++ w :: sp' := by rw [hlen]; exact jmJ vs sp' c0 w
   refine hk _ H' ⟨by simp; omega, .inr ⟨b, sp', rfl, by simpa using hr, by simp at h3 ⊢; omega⟩, by dsimp only; omega⟩ (by dsimp only; omega) (.inl ⟨b, vs ++ c0 :: sp', h1, rfl, h2, by rw [e2]; exact hr, hU.mono fun _ _ e => e.1, hs⟩)
 ·refine ⟨hb, ?_, vs, hv.rd, fun _ => by omega, fun c hc => ?_⟩
  ·have := jds (s.len + x.len) s.cap hgrow
   refine Nat.le_trans (Nat.mul_le_mul_right bytes this) ?_
   rw [hlen, hxl]; exact hcap
  ·have e : (⟨vs⟩ ++ ⟨[w]⟩ ++ jbq #[z] ((c - (s.len + x.len)) * (#[z] : Array Value).size) : Array Value) = ⟨vs ++ [w] ++ List.replicate (c - (s.len + x.len)) z⟩ := by
    rw [jeN]; apply Array.ext'; simp
   rw [e]
   refine hk _ _ ⟨by simp; omega, .inr ⟨H.size, List.replicate (c - (s.len + x.len)) z, rfl, jaJ _ _, by simp; omega⟩, hc⟩ (by dsimp only; omega) (.inr ⟨rfl, Upd.push _ _ _, by simp⟩)
abbrev RFd := TypeId × Sl × List Value
structure Rec (H : jaa) (p : Nat) (T : TypeId) (fs : List RFd) (tl : List Value) : Prop where
 row : Row H p T (fs.map (fun f => slV f.2.1) ++ tl)
 vs : ∀ i (h : i < fs.length), Vec H fs[i].1 fs[i].2.1 fs[i].2.2
 ap : ∀ i j (h : i < fs.length) (h' : j < fs.length), i ≠ j → Apart fs[i].2.1 fs[j].2.1
 np : ∀ i (h : i < fs.length) b, fs[i].2.1.a = some (adr b) → b ≠ p
def RecB (p : Nat) (fs : List RFd) (b : Nat) : Prop := b = p ∨ ∃ i, ∃ h : i < fs.length, fs[i].2.1.a = some (adr b)
theorem Rec.upd {M : Nat → Prop} {H H' : jaa} {p : Nat} {T : TypeId} {fs : List RFd} {tl : List Value} (hu : Upd M H H') (h : Rec H p T fs tl) (hm : ∀ b, RecB p fs b → ¬ M b) : Rec H' p T fs tl :=
 ⟨hu.row h.row (hm p (.inl rfl)), fun i hi => (h.vs i hi).upd hu fun b hb => hm b (.inr ⟨i, hi, hb⟩), h.ap, h.np⟩
theorem Rec.ext {H H' : jaa} {p : Nat} {T : TypeId} {fs : List RFd} {tl : List Value} (hu : Ext H H') (h : Rec H p T fs tl) : Rec H' p T fs tl := h.upd hu fun _ _ h => h
theorem Rec.lt {H : jaa} {p : Nat} {T : TypeId} {fs : List RFd} {tl : List Value} (h : Rec H p T fs tl) {b : Nat} (hb : RecB p fs b) : b < H.size := by
 rcases hb with rfl | ⟨i, hi, e⟩
 ·exact h.row.lt
 ·exact (h.vs i hi).lt e
structure RecP (H0 H : jaa) (p : Nat) (T : TypeId) (fs : List RFd) (tl : List Value) (q : Nat) (l : Sl) (w : Value) : Prop where
 hq : q < fs.length
 row : Row H p T (fs.map (fun f => slV f.2.1) ++ tl)
 vs : ∀ i (h : i < fs.length), i ≠ q → Vec H fs[i].1 fs[i].2.1 fs[i].2.2
 vl : Vec H fs[q].1 l (fs[q].2.2 ++ [w])
 ap : ∀ i j (h : i < fs.length) (h' : j < fs.length), i ≠ j → Apart fs[i].2.1 fs[j].2.1
 np : ∀ i (h : i < fs.length) b, fs[i].2.1.a = some (adr b) → b ≠ p
 la : l.a = fs[q].2.1.a ∨ l.a = some (adr H0.size)
 lt : ∀ b, RecB p fs b → b < H0.size
 up : Upd (fun b => fs[q].2.1.a = some (adr b)) H0 H
 old : Vec H fs[q].1 fs[q].2.1 fs[q].2.2
theorem Rec.app {H : jaa} {p : Nat} {T : TypeId} {fs : List RFd} {tl : List Value} (h : Rec H p T fs tl) {q : Nat} (hq : q < fs.length) {x : Sl} {w : Value} (hx : rdL H x.a [w]) (hxl : x.len = 1) (hone : w.oneCell' = true) {bytes : Nat} {z : Value} (hb : bytes ≠ 0)
 (hcap : (fs[q].2.2.length + 1 + (fs[q].2.2.length + 1) / 4 + 1000) * bytes ≤ 2 ^ 48) {k : Sl → jaa → Prop} (hk : ∀ l H', RecP H H' p T fs tl q l w → k l H') : App fs[q].1 1 bytes #[z] fs[q].2.1 x H k := by
 refine App_one (h.vs q hq) hx hxl hone hb hcap fun l H' hv hl hc => hk l H' ?_
 have up : Upd (fun b => fs[q].2.1.a = some (adr b)) H H' := by
  rcases hc with ⟨b, cs, h1, _, _, _, h5, _⟩ | ⟨_, h2, _⟩
  ·exact h5.mono fun c _ e => e ▸ h1
  ·exact h2.mono fun _ _ e => e.elim
 refine ⟨hq, up.row h.row fun e => h.np q hq p e rfl, fun i hi hne => (h.vs i hi).upd up fun b hb e => h.ap i q hi hq hne b hb e, hv, h.ap, h.np, ?_, fun b hb => h.lt hb, up, ?_⟩
 rotate_left
 ·rcases hc with ⟨b, cs, h1, _, h3, h4, _⟩ | ⟨_, h2, _⟩
  ·have := (h.vs q hq).poke h1 h3 h4
   rwa [List.set_eq_of_length_le (by rw [(h.vs q hq).len]; exact Nat.le_refl _)] at this
  ·exact (h.vs q hq).upd h2 fun _ _ h => h
 rcases hc with ⟨b, cs, h1, h2, _⟩ | ⟨h1, _⟩
 ·exact .inl (h2.trans h1.symm)
 ·exact .inr h1
theorem RecP.cell {H0 H : jaa} {p : Nat} {T : TypeId} {fs : List RFd} {tl : List Value} {q : Nat} {l : Sl} {w : Value} (h : RecP H0 H p T fs tl q l w) (i : Nat) : jar H ⟨p, i, none⟩ = (fs.map (fun f => slV f.2.1) ++ tl)[i]? := h.row.cell i
theorem RecP.st {H0 H : jaa} {p : Nat} {T : TypeId} {fs : List RFd} {tl : List Value} {q : Nat} {l : Sl} {w : Value} (h : RecP H0 H p T fs tl q l w) {k : jaa → Prop}
 (hk : ∀ H', Rec H' p T (fs.set q (fs[q]'h.hq |>.1, l, (fs[q]'h.hq).2.2 ++ [w])) tl → Upd (fun b => b = p ∨ (fs[q]'h.hq).2.1.a = some (adr b)) H0 H' → k H') : St ⟨p, q, none⟩ (.slice l.a l.len l.cap) H k := by
 have hq := h.hq
 refine jay h.row (by simp; omega) fun H' hU hs hr => hk H' ?_ ((h.up.mono fun _ _ e => .inr e).trans hU fun _ _ e => .inl e)
 have hpH : p < H0.size := h.lt p (.inl rfl)
 have lnp : ∀ b, l.a = some (adr b) → b ≠ p := fun b hb e => by
  rcases h.la with h1 | h1
  ·rw [h1] at hb; exact h.np q hq b hb e
  ·rw [h1] at hb; cases hb; omega
 have lap : ∀ i (hi : i < fs.length), i ≠ q → Apart fs[i].2.1 l := fun i hi hne b hb hb' => by
  rcases h.la with h1 | h1
  ·rw [h1] at hb'; exact h.ap i q hi hq hne b hb hb'
  ·rw [h1] at hb'; cases hb'; have := h.lt _ (.inr ⟨i, hi, hb⟩); omega
 have gn : ∀ i (hi : i < (fs.set q (fs[q].1, l, fs[q].2.2 ++ [w])).length), i ≠ q → (fs.set q (fs[q].1, l, fs[q].2.2 ++ [w]))[i] = fs[i]'(by simpa using hi) := fun i hi hne => List.getElem_set_ne (fun e => hne e.symm) _
 have ge : ∀ i (hi : i < (fs.set q (fs[q].1, l, fs[q].2.2 ++ [w])).length), i = q → (fs.set q (fs[q].1, l, fs[q].2.2 ++ [w]))[i] = (fs[q].1, l, fs[q].2.2 ++ [w]) := fun i hi e => by subst e; exact List.getElem_set_self _
 refine ⟨?_, fun i hi => ?_, fun i j hi hj hne => ?_, fun i hi b hb => ?_⟩
 ·rw [List.set_append_left _ _ (by simpa using hq)] at hr
  rw [List.map_set]; exact hr
 ·by_cases e : i = q
  ·rw [ge i hi e]; exact h.vl.upd hU fun b hb e => lnp b hb e
  ·rw [gn i hi e]; exact (h.vs i _ e).upd hU fun b hb e => h.np i _ b hb e
 ·by_cases e : i = q
  ·have e' : j ≠ q := fun h => hne (e.trans h.symm)
   rw [ge i hi e, gn j hj e']; exact (lap j (by simpa using hj) e').symm
  ·rw [gn i hi e]
   by_cases e' : j = q
   ·rw [ge j hj e']; exact lap i (by simpa using hi) e
   ·rw [gn j hj e']; exact h.ap i j _ _ hne
 ·by_cases e : i = q
  ·rw [ge i hi e] at hb; exact lnp b hb
  ·rw [gn i hi e] at hb; exact h.np i _ b hb
theorem RecP.sub {H0 H : jaa} {p : Nat} {T : TypeId} {fs : List RFd} {tl : List Value} {q : Nat} {l : Sl} {w : Value} (h : RecP H0 H p T fs tl q l w) {b : Nat} (hb : RecB p (fs.set q (fs[q]'h.hq |>.1, l, (fs[q]'h.hq).2.2 ++ [w])) b) : RecB p fs b ∨ H0.size ≤ b := by
 have hq := h.hq
 rcases hb with rfl | ⟨i, hi, hb⟩
 ·exact .inl (.inl rfl)
 ·by_cases e : i = q
  ·subst e
   rw [List.getElem_set_self] at hb
   rcases h.la with e | e
   ·rw [e] at hb; exact .inl (.inr ⟨i, hq, hb⟩)
   ·rw [e] at hb; cases hb; exact .inr (Nat.le_refl _)
  ·rw [List.getElem_set_ne (fun h => e h.symm)] at hb
   exact .inl (.inr ⟨i, by simpa using hi, hb⟩)
end Go.Proofs.YtfpmgpblhhcpgaaGreatDoor.Hc
namespace Go.Proofs.YtfpmgpblhhcpgaaGreatDoor
set_option maxRecDepth 100000
section
open Hc Hc.Lex
abbrev bs (s : ByteArray) : Bs := s.data.toList
theorem jaw (s : ByteArray) : (bs s).length = s.size := by simp [bs]
theorem jiX (l : Bs) : bs ⟨⟨l⟩⟩ = l := rfl
theorem bs_inj {a b : ByteArray} (h : bs a = bs b) : a = b := by
 apply ByteArray.ext; exact Array.ext' h
theorem get_bs {s : ByteArray} {p : Nat} {c : UInt8} {t : Bs} (h : (bs s).drop p = c :: t) : s[p]? = some c := by
 have h1 : (bs s)[p]? = some c := by
  have := congrArg (fun l => l[0]?) h
  simpa using this
 obtain ⟨hlt, hv⟩ := List.getElem?_eq_some_iff.1 h1
 rw [jaw] at hlt
 rw [getElem?_pos s p hlt, ← hv]
 rfl
theorem jaU {s : ByteArray} {i : Int} {p : Nat} {c : UInt8} {t : Bs} {k : Int → Prop} (h : (bs s).drop p = c :: t) (hi : i = p) (hk : k c.toNat) : jdP s i k := by
 subst hi
 exact ⟨c, by omega, by rw [Int.toNat_natCast]; exact get_bs h, hk⟩
theorem jkp (s : ByteArray) (a b : Nat) : bs (s.extract a b) = ((bs s).drop a).take (b - a) := by
 simp [bs, ByteArray.data_extract, List.extract]
theorem jd2 {s : ByteArray} {lo hi : Int} {a b : Nat} {k : ByteArray → Prop} (h1 : lo = a) (h2 : hi = b) (h3 : a ≤ b) (h4 : b ≤ s.size) (hk : k ⟨⟨((bs s).drop a).take (b - a)⟩⟩) : jl7 s lo hi k := by
 subst h1 h2
 refine ⟨by omega, by omega, by omega, ?_⟩
 rw [Int.toNat_natCast, Int.toNat_natCast]
 have : s.extract a b = ⟨⟨((bs s).drop a).take (b - a)⟩⟩ := bs_inj (jkp s a b)
 rw [this]; exact hk
theorem jbN (L : Bs) (p : Nat) : (L.length ≤ p ∧ L.drop p = []) ∨ ∃ c t, L.drop p = c :: t ∧ p < L.length := by
 rcases Nat.lt_or_ge p L.length with h | h
 ·exact .inr ⟨L[p], L.drop (p + 1), List.drop_eq_getElem_cons h, h⟩
 ·exact .inl ⟨h, List.drop_eq_nil_of_le h⟩
theorem ja3 (a b : ByteArray) : (a.toList == b.toList) = decide (bs a = bs b) := by
 rw [ByteArray.toList_eq, ByteArray.toList_eq]
 by_cases h : bs a = bs b
 ·rw [decide_eq_true h]; simpa using h
 ·rw [decide_eq_false h]; simpa using h
abbrev Nb (lo : Nat) (H H' : jaa) : Prop := Upd (fun b => lo ≤ b) H H'
theorem Nb.tr {lo : Nat} {H H1 H2 : jaa} (h : Nb lo H H1) (h2 : Nb lo H1 H2) : Nb lo H H2 := h.trans h2 fun _ _ h => h
theorem Nb.ex {lo : Nat} {H H1 : jaa} (h : Ext H H1) : Nb lo H H1 := h.mono fun _ _ h => h.elim
structure GE (lo : Nat) (H : jaa) : Prop where
 lt : 8 ≤ lo
 mx : ∃ m, jar H ⟨1, 0, none⟩ = some (.int .i64 m)
 er : ∃ ev, jar H ⟨3, 0, none⟩ = some ev ∧ (ev = .nilIface ∨ ∃ te pe, ev = .iface te pe)
theorem GE.nb {lo l2 : Nat} {H H' : jaa} (h : GE lo H) (hl : 8 ≤ l2) (hu : Nb l2 H H') : GE lo H' := by
 obtain ⟨m, hm⟩ := h.mx
 obtain ⟨ev, he, hv⟩ := h.er
 exact ⟨h.lt, ⟨m, hu.cell hm (by simp; omega)⟩, ev, hu.cell he (by simp; omega), hv⟩
theorem GE.ext {lo : Nat} {H H' : jaa} (h : GE lo H) (hu : Ext H H') : GE lo H' := h.nb h.lt (Nb.ex hu)
theorem ja6 {f : FuncId} {args : List Value} {r : RTy} {H : jaa} {k : r.den → jaa → Prop} {post : World → Ending → World → Prop} (hcb : Cb Pg f) (h : ∀ w, w.heap = H → Calls Pg f ⟨args⟩ w (post w))
 (hp : ∀ w e w', w.heap = H → post w e w' → SameEnv w w' ∧ ∃ d, e = .returned (r.emb d) ∧ k d w'.heap) : CallT Pg f args r H k :=
 ⟨hcb, fun w hw => (h w hw).mono fun e w' h => hp w e w' hw h⟩
theorem jhE : Cb Pg fQbz := ⟨_, Tryz.func107, by kernel_rfl, by kernel_rfl⟩
theorem jhV : Cb Pg fQb0 := ⟨_, Tryz.func108, by kernel_rfl, by kernel_rfl⟩
theorem cb_Cut : Cb Pg fQb1 := ⟨_, Tryz.func109, by kernel_rfl, by kernel_rfl⟩
theorem jgd : Cb Pg fQao := ⟨_, Tryz.func113, by kernel_rfl, by kernel_rfl⟩
theorem jlm : Cb Pg fQb6 := ⟨_, Tryz.func149, by kernel_rfl, by kernel_rfl⟩
theorem jf4 {s : ByteArray} {c : UInt8} {H : jaa} {k : Int → jaa → Prop} (hk : k (Lib.indexByte (bs s) c) H) : CallT Pg fQbz [.string s, .int .u8 (c.toNat : Int)] (.one (.c (.int .i64))) H k := by
 refine ja6 jhE (fun w _ => Tryz.strings_IndexByte s c.toNat w) fun w e w' hw ⟨h1, h2⟩ => ?_
 subst h2
 have : (c.toNat : Int).toNat.toUInt8 = c := by simp
 rw [this] at h1
 exact ⟨.refl _, _, h1, by rw [hw]; exact hk⟩
theorem jd3 {s p : ByteArray} {H : jaa} {k : Bool → jaa → Prop} (hk : k (Lib.hasPrefix (bs s) (bs p)) H) : CallT Pg fQb0 [.string s, .string p] (.one (.c .bool)) H k := by
 refine ja6 jhV (fun w _ => Tryz.strings_HasPrefix s p w) fun w e w' hw ⟨h1, h2⟩ => ?_
 subst h2
 exact ⟨.refl _, _, h1, by rw [hw]; exact hk⟩
theorem s_Cut {s p : ByteArray} {H : jaa} {lo : Nat} {k : ByteArray × ByteArray × Bool → jaa → Prop} (hg : GE lo H) (hs : s.size < 4294967281) (hk : k (⟨⟨(Lib.cut (bs s) (bs p)).1⟩⟩, ⟨⟨(Lib.cut (bs s) (bs p)).2.1⟩⟩, (Lib.cut (bs s) (bs p)).2.2) H) :
 CallT Pg fQb1 [.string s, .string p] (.tup [(.c .str), (.c .str), (.c .bool)]) H k := by
 obtain ⟨m, hm⟩ := hg.mx
 refine ja6 cb_Cut (fun w hw => Tryz.strings_Cut s p m w hs (by rw [← hw] at hm; rw [cell?_eq]; exact hm)) fun w e w' hw ⟨h1, n, h2⟩ => ?_
 subst h2
 exact ⟨⟨rfl, rfl, rfl⟩, (⟨⟨(Lib.cut (bs s) (bs p)).1⟩⟩, ⟨⟨(Lib.cut (bs s) (bs p)).2.1⟩⟩, (Lib.cut (bs s) (bs p)).2.2), h1, by rw [World.heap_drewN, hw]; exact hk⟩
theorem jkq {w w1 : World} (h : Ext w.heap w1.heap) (n m : Nat) : SameEnv w1 (w1.freeze ⟨w.heap.size, n, none⟩ m) ∧ Ext w.heap (w1.freeze ⟨w.heap.size, n, none⟩ m).heap := by
 refine ⟨.freeze _ _ _, ?_⟩
 unfold World.freeze
 split
 ·exact h
 ·refine ⟨by simpa using h.size, fun b hb _ => ?_⟩
  simp only [Array.getElem?_modify]
  rw [if_neg (by omega)]
  exact h.get b hb fun h => h
theorem jgr (w : World) (T : TypeId) (t : ByteArray) : SameEnv w (Lib.bytesWorld w T t) ∧ Ext w.heap (Lib.bytesWorld w T t).heap := by
 have h : Ext w.heap (w.drew.alloc (.cells (Lib.bytesCells w T t) T)).heap := Upd.push _ _ _
 obtain ⟨h1, h2⟩ := jkq h (Lib.bytesCells w T t).size 1
 have h0 : SameEnv w (w.drew.alloc (.cells (Lib.bytesCells w T t) T)) := ⟨rfl, rfl, rfl⟩
 exact ⟨h0.trans h1, h2⟩
theorem jeE {s : ByteArray} {v : Int} {H : jaa} {k : Int × Value → jaa → Prop} (hs : s.size ≤ 8000) (h : Lib.parseIntB 64 (bs s) = .ok v) (hk : ∀ H', Ext H H' → k (v, .nilIface) H') :
 CallT Pg fQao [.string s, .int .i64 10, .int .i64 64] (.tup [(.c (.int .i64)), (.c .raw)]) H k := by
 refine ja6 jgd (fun w _ => Tryz.strconv_ParseInt_10_at64_ok s (by omega) v h w) fun w e w' hw ⟨h1, h2⟩ => ?_
 rcases h2 with rfl | ⟨t, rfl⟩
 ·exact ⟨.refl _, (v, .nilIface), h1, by rw [hw]; exact hk _ (.refl _ _)⟩
 ·obtain ⟨g1, g2⟩ := jgr w 5 t
  exact ⟨g1, (v, .nilIface), h1, hk _ (by rw [← hw]; exact g2)⟩
theorem jfr {s : ByteArray} {lo : Nat} {H : jaa} {k : Int × Value → jaa → Prop} (hg : GE lo H) (hs : s.size ≤ 8000) (h : Lib.parseIntB 64 (bs s) = .range) (hk : ∀ H' v p, Ext H H' → k (v, .iface 168 p) H') :
 CallT Pg fQao [.string s, .int .i64 10, .int .i64 64] (.tup [(.c (.int .i64)), (.c .raw)]) H k := by
 obtain ⟨ev, he, hv⟩ := hg.er
 refine ja6 jgd (fun w hw => Tryz.strconv_ParseInt_10_at64_range s (by omega) h ev w (by rw [← hw] at he; rw [cell?_eq]; exact he) hv) fun w e w' hw ⟨N, h1, h2, h3, h4⟩ => ?_
 refine ⟨⟨h4.tape, h4.os, h4.output⟩, (Lib.intSat 64 (bs s), .iface 168 (.pointer (some ⟨N, 0, none⟩))), h1, hk _ _ _ ?_⟩
 rw [← hw]
 exact ⟨h4.size, fun b hb _ => h4.block b hb⟩
theorem jgz (c : UInt8) : jaA c = decide ((97 ≤ c.toNat ∧ c.toNat ≤ 122) ∨ (65 ≤ c.toNat ∧ c.toNat ≤ 90)) := by
 unfold jaA; rw [Bool.eq_iff_iff]; simp
theorem jby (c : UInt8) : jav c = decide (48 ≤ c.toNat ∧ c.toNat ≤ 57) := by
 unfold jav; rw [Bool.eq_iff_iff]; simp
theorem jhr {c : UInt8} {H : jaa} {k : Bool → jaa → Prop} (hk : k (jaA c) H) : CallT Pg jnx [.int .u8 (c.toNat : Int)] (.one (.c .bool)) H k := by
 refine cQbh _ ?_
 unfold vQbh
 refine Jn.mk (fun j H' => H' = H ∧ j = jaA c) (fun kk hkk => ?_) (by rintro j _ ⟨rfl, rfl⟩; exact hk)
 have hd : ∀ {a b : Bool}, a = b → kk a H = kk b H := fun h => by rw [h]
 refine jaj (fun h1 => jaj (fun h2 => hkk _ _ ⟨rfl, ?_⟩) fun h2 => jaj (fun h3 => hkk _ _ ⟨rfl, ?_⟩) fun h3 => hkk _ _ ⟨rfl, ?_⟩) fun h1 => jaj (fun h3 => hkk _ _ ⟨rfl, ?_⟩) fun h3 => hkk _ _ ⟨rfl, ?_⟩
 all_goals rw [jgz]
 ·exact (decide_eq_true (by omega)).symm
 ·exact decide_eq_decide.2 (by omega)
 ·exact (decide_eq_false (by omega)).symm
 ·exact decide_eq_decide.2 (by omega)
 ·exact (decide_eq_false (by omega)).symm
theorem jgb {c : UInt8} {H : jaa} {k : Bool → jaa → Prop} (hk : k (jaA c) H) : CallT Pg fQbl [.int .u8 (c.toNat : Int)] (.one (.c .bool)) H k := by
 refine cQbu _ ?_
 unfold vQbu
 refine Jn.mk (fun j H' => H' = H ∧ j = jaA c) (fun kk hkk => ?_) (by rintro j _ ⟨rfl, rfl⟩; exact hk)
 refine jaj (fun h1 => jaj (fun h2 => hkk _ _ ⟨rfl, ?_⟩) fun h2 => jaj (fun h3 => hkk _ _ ⟨rfl, ?_⟩) fun h3 => hkk _ _ ⟨rfl, ?_⟩) fun h1 => jaj (fun h3 => hkk _ _ ⟨rfl, ?_⟩) fun h3 => hkk _ _ ⟨rfl, ?_⟩
 all_goals rw [jgz]
 ·exact (decide_eq_true (by omega)).symm
 ·exact decide_eq_decide.2 (by omega)
 ·exact (decide_eq_false (by omega)).symm
 ·exact decide_eq_decide.2 (by omega)
 ·exact (decide_eq_false (by omega)).symm
theorem ji8 {c : UInt8} {H : jaa} {k : Bool → jaa → Prop} (hk : k (jav c) H) : CallT Pg fQbs [.int .u8 (c.toNat : Int)] (.one (.c .bool)) H k := by
 refine cQbi _ ?_
 unfold vQbi
 refine Jn.mk (fun j H' => H' = H ∧ j = jav c) (fun kk hkk => ?_) (by rintro j _ ⟨rfl, rfl⟩; exact hk)
 refine jaj (fun h1 => hkk _ _ ⟨rfl, ?_⟩) fun h1 => hkk _ _ ⟨rfl, ?_⟩
 ·rw [jby]; exact decide_eq_decide.2 (by omega)
 ·rw [jby]; exact (decide_eq_false (by omega)).symm
theorem jjA {c : UInt8} {H : jaa} {k : Bool → jaa → Prop} (hk : k (jav c) H) : CallT Pg fQbm [.int .u8 (c.toNat : Int)] (.one (.c .bool)) H k := by
 refine cQbv _ ?_
 unfold vQbv
 refine Jn.mk (fun j H' => H' = H ∧ j = jav c) (fun kk hkk => ?_) (by rintro j _ ⟨rfl, rfl⟩; exact hk)
 refine jaj (fun h1 => hkk _ _ ⟨rfl, ?_⟩) fun h1 => hkk _ _ ⟨rfl, ?_⟩
 ·rw [jby]; exact decide_eq_decide.2 (by omega)
 ·rw [jby]; exact (decide_eq_false (by omega)).symm
theorem jbp (c : UInt8) (n : Nat) (hn : n < 256) : (((c.toNat : Int)) == (n : Int)) = (c == UInt8.ofNat n) := by
 have hc := UInt8.toNat_lt c
 by_cases h : c.toNat = n
 ·subst h; simp
 ·have h2 : c ≠ UInt8.ofNat n := fun e => h (by rw [e, UInt8.toNat_ofNat']; omega)
  rw [beq_eq_false_iff_ne.2 h2]
  exact beq_eq_false_iff_ne.2 (by omega)
theorem s_wordC {c : UInt8} {H : jaa} {k : Bool → jaa → Prop} (hk : k (jaP c) H) : CallT Pg fQb4 [.int .u8 (c.toNat : Int)] (.one (.c .bool)) H k := by
 refine cQbq _ ?_
 unfold vQbq
 refine Jn.mk (fun j H' => H' = H ∧ j = jaP c) (fun kk hkk => ?_) (by rintro j _ ⟨rfl, rfl⟩; exact hk)
 refine jhr (Br.mk (fun h => hkk _ _ ⟨rfl, by simp [jaP, h]⟩) fun h => ji8 (Br.mk (fun h2 => hkk _ _ ⟨rfl, by simp [jaP, h2]⟩) fun h2 => hkk _ _ ⟨rfl, ?_⟩))
 unfold jaP; rw [h, h2]; exact jbp c 95 (by decide)
theorem jd4 {x e : Int} {H : jaa} {k : Option Addr → jaa → Prop} (hk : ∀ H' b, b = H.size → Ext H H' → Row H' b jkH [.int .i64 x, .int .i64 e] → k (some (adr b)) H') : CallT Pg jmO [.int .i64 x, .int .i64 e] (.one (.c .ptr)) H k :=
 cQbe _ _ (jaq fun b H' h1 h2 _ h4 => hk H' b h1 h2 h4)
end
end Go.Proofs.YtfpmgpblhhcpgaaGreatDoor
