/- Part 2 of the proof of IntegerGcds: what the program's functions compute, told as plain functions, and what these answer. Conditions: none beside the statement's own. Gathered by the session's program merge.py out of its own and the printed texts; no declaration that the proof does not name is left in. -/
import Derived.Test.YtiikfhdmclmjmaaDoorIGcd1
import Derived.Shelf.Strings.Builder1
import Derived.Shelf.Strings.Builder2
import Derived.Shelf.Strings.OnBuilder
import Derived.Shelf.Small.Bits
import Derived.Shelf.Strings.BuilderF
import Derived.Shelf.Strings.BuilderK
import Derived.Shelf.Strings.Builder2Cap
import Derived.Shelf.Strconv.Itoa0
import Derived.Shelf.Strconv.Itoa1
import Derived.Shelf.LaysM
import Derived.Shelf.Strconv.Itoa2
import Derived.Shelf.Strconv.Itoa3
import Derived.Shelf.Strconv.Clone
import Derived.Shelf.Strconv.Lower
import Derived.Shelf.Strconv.ParseUint10
import Derived.Shelf.Strconv.ParseUint10Empty
import Derived.Shelf.Strconv.ParseUint10Any
import Derived.Ground.MpProg
import Derived.Shelf.Pu.ParseUintPublic10
import Derived.Shelf.Pu.ErrVarParseUint
import Derived.Shelf.GgClosure.StringsIndexFunc
import Derived.Ground.GgwProg
import Derived.Shelf.GgClosure.StringsIndexFuncTop
import Derived.Shelf.Strings.Prefix
import Derived.Shelf.Bits.Mul64
import Derived.Shelf.Strings.Repeat
import Derived.Shelf.Strings.BuilderCap
import Derived.Ground.Names2Prog
import Derived.Shelf.Slices.ReverseS
import Derived.Shelf.Slices.Cells
import Derived.Test.YtiikfhdmclmjmaaDoorProg
import Derived.KernelRfl
import Derived.Below
import Derived.Deep.Draws
import Derived.Deep.AppendLies
import Derived.Maps.AppendAt
import Derived.OwnWalk
import Derived.Laws.BytesArg
import Derived.Laws.MakeOwn
import Derived.Laws.OwnMore
import Derived.Deep.OwnRows
import Derived.Tactics
import Derived.Lib.ConvBytes
import Derived.Laws.Slices
import Derived.WalkKit
import Derived.RowKit3
import Derived.Deep.LoopGhost
import Derived.Deep.QuietTactic
import Derived.BigQuiet
import Derived.WideLaws
import Derived.Deep.DeepCutAuto
import Derived.Deep.CutBlock
import Derived.Deep.RegionHeld3
import Derived.Laws.Rows
import Derived.Lib.AppendStr
import Derived.ArgAppend
import Derived.Laws.IdiomCopy
import Derived.OrdersHeld
import Derived.Laws.BitsLemmas
import Derived.RowKit
import Derived.Lib.QuietBelow
import Derived.WalkSmall
import Derived.Lib.SliceRun
import Derived.Shelf.Abstract
import Derived.Lib.AtoiErrMem
import Derived.Laws.StructEq
set_option linter.unusedVariables false
set_option linter.unusedSimpArgs false
namespace Go.Proofs
open Go.Shelf
def Tryd.lays156_ren : Go.Shelf.Ren := ⟨fun | 156 => 50 | 165 => 71 | 166 => 72 | 169 => 74 | 240 => 87 | 241 => 88 | 276 => 101 | 277 => 102 | n => n, fun | 31 => 62 | 9 => 9 | 3 => 3 | 4 => 4 | 0 => 0 | 20 => 20 | 72 => 93 | 76 => 95 | 70 => 91 | 37 => 37 | 75 => 75 | 127 => 106 | 164 => 118 | 5 => 5 | 80 => 29 | n => n, fun | n => n⟩
theorem Tryd.lays156 : Go.Proofs.Lays.n156 Tryd.prog Tryd.lays156_ren := {
 mixed := by kernel_rfl
 f156 := Tryd.func50.trans (congrArg some (by kernel_rfl))
 f165 := Tryd.func71.trans (congrArg some (by kernel_rfl))
 f166 := Tryd.func72.trans (congrArg some (by kernel_rfl))
 f169 := Tryd.func74.trans (congrArg some (by kernel_rfl))
 f240 := Tryd.func87.trans (congrArg some (by kernel_rfl))
 f241 := Tryd.func88.trans (congrArg some (by kernel_rfl))
 f276 := Tryd.func101.trans (congrArg some (by kernel_rfl))
 f277 := Tryd.func102.trans (congrArg some (by kernel_rfl))
 t0 := Tryd.underlying0
 a0 := Tryd.isAgg0
 z0 := Tryd.sizeOf0
 v0 := Tryd.zeroValue0
 t3 := Tryd.underlying3
 a3 := Tryd.isAgg3
 z3 := Tryd.sizeOf3
 v3 := Tryd.zeroValue3
 t4 := Tryd.underlying4
 a4 := Tryd.isAgg4
 z4 := Tryd.sizeOf4
 v4 := Tryd.zeroValue4
 t9 := Tryd.underlying9
 a9 := Tryd.isAgg9
 z9 := Tryd.sizeOf9
 v9 := Tryd.zeroValue9
 t20 := Tryd.underlying20
 a20 := Tryd.isAgg20
 z20 := Tryd.sizeOf20
 v20 := Tryd.zeroValue20
 t31 := Tryd.underlying62
 a31 := Tryd.isAgg62
 z31 := Tryd.sizeOf62
 v31 := Tryd.zeroValue62
 t37 := Tryd.underlying37
 a37 := Tryd.isAgg37
 z37 := Tryd.sizeOf37
 v37 := Tryd.zeroValue37
 t70 := Tryd.underlying91
 a70 := Tryd.isAgg91
 z70 := Tryd.sizeOf91
 v70 := Tryd.zeroValue91
 t72 := Tryd.underlying93
 a72 := Tryd.isAgg93
 z72 := Tryd.sizeOf93
 v72 := Tryd.zeroValue93
 t75 := Tryd.underlying75
 a75 := Tryd.isAgg75
 z75 := Tryd.sizeOf75
 v75 := Tryd.zeroValue75
 t76 := Tryd.underlying95
 a76 := Tryd.isAgg95
 z76 := Tryd.sizeOf95
 v76 := Tryd.zeroValue95
 t127 := Tryd.underlying106
 a127 := Tryd.isAgg106
 z127 := Tryd.sizeOf106
 v127 := Tryd.zeroValue106
 t164 := Tryd.underlying118
 a164 := Tryd.isAgg118
 z164 := Tryd.sizeOf118
 v164 := Tryd.zeroValue118 }
theorem Tryd.Builder_Extra_156 : Builder.Extra Tryd.prog Tryd.lays156_ren := {
 sizeBuilder := by kernel_rfl
 liesBuilder := by kernel_rfl
 t5 := Tryd.underlying5
 a5 := Tryd.isAgg5
 z5 := Tryd.sizeOf5
 v5 := Tryd.zeroValue5
 infoByte := by kernel_rfl
 cellsByte := by kernel_rfl
 sizeByte := by kernel_rfl
 neB5 := by decide }
open Go.RowKit in
theorem Tryd.strings_Join_none (a : Option Addr) (c : Nat) (sep : ByteArray) (w : World) :
  Calls Tryd.prog 50 #[.slice a 0 c, .string sep] w fun e w' => e = .returned (.string ⟨#[]⟩) ∧ w' = w := Any.strings_Join_none Tryd.lays156 Tryd.Builder_Extra_156 a c sep w
open Go.RowKit in
theorem Tryd.strings_Join (bk o c : Nat) (xs : List ByteArray) (sep : ByteArray) (w : World) (hcells : ∀ (j : Nat) x, xs[j]? = some x → w.cell? ⟨bk, o + j, none⟩ = some (.string x)) (hbk : bk < w.heap.size) (hN : xs.length ≤ 140737488355328) (hcap : xs.length ≤ c) (hlen : (Lib.join (xs.map (·.data.toList)) sep.data.toList).length ≤ 140737488355328) :
  Calls Tryd.prog 50 #[.slice (some ⟨bk, o, none⟩) xs.length c, .string sep] w fun e w' => e = .returned (.string ⟨(Lib.join (xs.map (·.data.toList)) sep.data.toList).toArray⟩) ∧ Below w.heap.size w w' := Any.strings_Join Tryd.lays156 Tryd.Builder_Extra_156 bk o c xs sep w hcells hbk hN hcap hlen
def Tryd.lays128_ren : Go.Shelf.Ren := ⟨fun | 128 => 66 | n => n, fun | 51 => 60 | 3 => 3 | 4 => 4 | 46 => 61 | 5 => 5 | 9 => 9 | n => n, fun | n => n⟩
theorem Tryd.lays128 : Go.Proofs.Lays.n128 Tryd.prog Tryd.lays128_ren := {
 mixed := by kernel_rfl
 f128 := Tryd.func66.trans (congrArg some (by kernel_rfl))
 t3 := Tryd.underlying3
 a3 := Tryd.isAgg3
 z3 := Tryd.sizeOf3
 v3 := Tryd.zeroValue3
 t4 := Tryd.underlying4
 a4 := Tryd.isAgg4
 z4 := Tryd.sizeOf4
 v4 := Tryd.zeroValue4
 t5 := Tryd.underlying5
 a5 := Tryd.isAgg5
 z5 := Tryd.sizeOf5
 v5 := Tryd.zeroValue5
 t9 := Tryd.underlying9
 a9 := Tryd.isAgg9
 z9 := Tryd.sizeOf9
 v9 := Tryd.zeroValue9
 t46 := Tryd.underlying61
 a46 := Tryd.isAgg61
 z46 := Tryd.sizeOf61
 v46 := Tryd.zeroValue61
 t51 := Tryd.underlying60
 a51 := Tryd.isAgg60
 z51 := Tryd.sizeOf60
 v51 := Tryd.zeroValue60 }
theorem Tryd.bits_Len32 (x : Int) (w : World) (h0 : 0 ≤ x) (h1 : x ≤ 4294967295) :
  Calls Tryd.prog 66 #[.int .u32 x] w fun e w' => e = .returned (.int .i64 (Lib.bitLen x.toNat)) ∧ w' = w := Any.bits_Len32 Tryd.lays128 x w h0 h1
def Tryd.lays133_ren : Go.Shelf.Ren := ⟨fun | 133 => 79 | 128 => 66 | n => n, fun | 51 => 60 | 3 => 3 | 4 => 4 | 46 => 61 | 5 => 5 | 9 => 9 | n => n, fun | n => n⟩
theorem Tryd.lays133 : Go.Proofs.Lays.n133 Tryd.prog Tryd.lays133_ren := {
 mixed := by kernel_rfl
 f128 := Tryd.func66.trans (congrArg some (by kernel_rfl))
 f133 := Tryd.func79.trans (congrArg some (by kernel_rfl))
 t3 := Tryd.underlying3
 a3 := Tryd.isAgg3
 z3 := Tryd.sizeOf3
 v3 := Tryd.zeroValue3
 t4 := Tryd.underlying4
 a4 := Tryd.isAgg4
 z4 := Tryd.sizeOf4
 v4 := Tryd.zeroValue4
 t5 := Tryd.underlying5
 a5 := Tryd.isAgg5
 z5 := Tryd.sizeOf5
 v5 := Tryd.zeroValue5
 t9 := Tryd.underlying9
 a9 := Tryd.isAgg9
 z9 := Tryd.sizeOf9
 v9 := Tryd.zeroValue9
 t46 := Tryd.underlying61
 a46 := Tryd.isAgg61
 z46 := Tryd.sizeOf61
 v46 := Tryd.zeroValue61
 t51 := Tryd.underlying60
 a51 := Tryd.isAgg60
 z51 := Tryd.sizeOf60
 v51 := Tryd.zeroValue60 }
theorem Tryd.bits_LeadingZeros32 (x : Int) (w : World) (h0 : 0 ≤ x) (h1 : x ≤ 4294967295) :
  Calls Tryd.prog 79 #[.int .u32 x] w fun e w' => e = .returned (.int .i64 (32 - (Lib.bitLen x.toNat : Int))) ∧ w' = w := Any.bits_LeadingZeros32 Tryd.lays133 x w h0 h1
def Tryd.laysM171_ren : Go.Shelf.Ren := ⟨fun | 171 => 47 | 243 => 68 | 246 => 83 | 283 => 97 | 284 => 98 | 285 => 99 | 286 => 100 | 129 => 106 | 317 => 105 | 318 => 107 | 319 => 108 | 320 => 109 | 337 => 110 | 338 => 111 | n => n, fun | 3 => 3 | 9 => 9 | 2 => 2 | 4 => 4 | 171 => 113 | 0 => 0 | 53 => 58 | 37 => 37 | 5 => 5 | 173 => 116 | 212 => 126 | 51 => 60 | 20 => 20 | 213 => 127 | 46 => 61 | 232 => 132 | 233 => 133 | n => n, fun | 17 => 2 | 18 => 4 | 19 => 5 | n => n⟩
theorem Tryd.laysM171 : Go.Proofs.LaysM.n171 Tryd.prog Tryd.laysM171_ren := {
 mixed := by kernel_rfl
 f129 := Tryd.func106.trans (congrArg some (by kernel_rfl))
 f171 := Tryd.func47.trans (congrArg some (by kernel_rfl))
 f243 := Tryd.func68.trans (congrArg some (by kernel_rfl))
 f246 := Tryd.func83.trans (congrArg some (by kernel_rfl))
 f283 := Tryd.func97.trans (congrArg some (by kernel_rfl))
 f284 := Tryd.func98.trans (congrArg some (by kernel_rfl))
 f285 := Tryd.func99.trans (congrArg some (by kernel_rfl))
 f286 := Tryd.func100.trans (congrArg some (by kernel_rfl))
 f317 := Tryd.func105.trans (congrArg some (by kernel_rfl))
 f318 := Tryd.func107.trans (congrArg some (by kernel_rfl))
 f319 := Tryd.func108.trans (congrArg some (by kernel_rfl))
 f320 := Tryd.func109.trans (congrArg some (by kernel_rfl))
 f337 := Tryd.func110.trans (congrArg some (by kernel_rfl))
 f338 := Tryd.func111.trans (congrArg some (by kernel_rfl))
 t0 := Tryd.underlying0
 a0 := Tryd.isAgg0
 z0 := Tryd.sizeOf0
 v0 := Tryd.zeroValue0
 t2 := Tryd.underlying2
 a2 := Tryd.isAgg2
 z2 := Tryd.sizeOf2
 v2 := Tryd.zeroValue2
 t3 := Tryd.underlying3
 a3 := Tryd.isAgg3
 z3 := Tryd.sizeOf3
 v3 := Tryd.zeroValue3
 t4 := Tryd.underlying4
 a4 := Tryd.isAgg4
 z4 := Tryd.sizeOf4
 v4 := Tryd.zeroValue4
 t5 := Tryd.underlying5
 a5 := Tryd.isAgg5
 z5 := Tryd.sizeOf5
 v5 := Tryd.zeroValue5
 t9 := Tryd.underlying9
 a9 := Tryd.isAgg9
 z9 := Tryd.sizeOf9
 v9 := Tryd.zeroValue9
 t20 := Tryd.underlying20
 a20 := Tryd.isAgg20
 z20 := Tryd.sizeOf20
 v20 := Tryd.zeroValue20
 t37 := Tryd.underlying37
 a37 := Tryd.isAgg37
 z37 := Tryd.sizeOf37
 v37 := Tryd.zeroValue37
 t46 := Tryd.underlying61
 a46 := Tryd.isAgg61
 z46 := Tryd.sizeOf61
 v46 := Tryd.zeroValue61
 t51 := Tryd.underlying60
 a51 := Tryd.isAgg60
 z51 := Tryd.sizeOf60
 v51 := Tryd.zeroValue60
 t53 := Tryd.underlying58
 a53 := Tryd.isAgg58
 z53 := Tryd.sizeOf58
 v53 := Tryd.zeroValue58
 t171 := Tryd.underlying113
 a171 := Tryd.isAgg113
 z171 := Tryd.sizeOf113
 v171 := Tryd.zeroValue113
 t173 := Tryd.underlying116
 a173 := Tryd.isAgg116
 z173 := Tryd.sizeOf116
 v173 := Tryd.zeroValue116
 t212 := Tryd.underlying126
 a212 := Tryd.isAgg126
 z212 := Tryd.sizeOf126
 v212 := Tryd.zeroValue126
 t213 := Tryd.underlying127
 a213 := Tryd.isAgg127
 z213 := Tryd.sizeOf127
 t232 := Tryd.underlying132
 a232 := Tryd.isAgg132
 z232 := Tryd.sizeOf132
 v232 := Tryd.zeroValue132
 t233 := Tryd.underlying133
 a233 := Tryd.isAgg133
 z233 := Tryd.sizeOf133
 v233 := Tryd.zeroValue133
 g17 := by kernel_rfl
 g18 := by kernel_rfl
 g19 := by kernel_rfl
 i0 := by kernel_rfl
 i2 := by kernel_rfl
 i3 := by kernel_rfl
 i4 := by kernel_rfl
 i5 := by kernel_rfl
 i9 := by kernel_rfl
 i20 := by kernel_rfl
 i37 := by kernel_rfl
 i46 := by kernel_rfl
 i51 := by kernel_rfl
 i53 := by kernel_rfl
 i171 := by kernel_rfl
 i173 := by kernel_rfl
 i212 := by kernel_rfl
 i232 := by kernel_rfl
 i233 := by kernel_rfl
 m17 := by kernel_rfl
 m18 := by kernel_rfl
 m19 := by kernel_rfl }
open Go.RowKit Go.Sort Go.Lib in
theorem Tryd.strconv_Itoa (n : Int) (h0 : -9223372036854775808 ≤ n) (h1 : n ≤ 9223372036854775807) (w : World) (htab : Lib.TabIs Tryd.prog w "internal/strconv.uint64pow10" .u64 Lib.pow10Tab) :
  Calls Tryd.prog 47 #[.int .i64 n] w fun e w' => e = .returned (.string ⟨(Lib.itoa n).toArray⟩) ∧ ∃ k os, w' = grow (w.drewN k) os := Any.strconv_Itoa Tryd.laysM171 n h0 h1 w htab
def Tryd.laysPu14_ren : Go.Shelf.Ren := ⟨fun | 14 => 56 | 16 => 77 | 17 => 78 | 19 => 90 | 20 => 91 | 21 => 92 | 22 => 93 | 23 => 94 | 24 => 95 | 25 => 103 | 27 => 47 | 26 => 104 | 28 => 68 | 29 => 83 | 30 => 97 | 31 => 98 | 32 => 99 | 33 => 100 | 35 => 106 | 34 => 105 | 36 => 107 | 37 => 108 | 38 => 109 | 39 => 110 | 40 => 111 | n => n, fun | 9 => 9 | 3 => 3 | 22 => 58 | 24 => 75 | 25 => 76 | 4 => 4 | 34 => 108 | 5 => 5 | 36 => 61 | 37 => 37 | 0 => 0 | 39 => 110 | 21 => 21 | 44 => 122 | 47 => 106 | 50 => 131 | 48 => 129 | 2 => 2 | 52 => 113 | 55 => 116 | 59 => 126 | 60 => 60 | 20 => 20 | 61 => 127 | 65 => 132 | 66 => 133 | 67 => 29 | n => n, fun | 0 => 0 | 1 => 1 | 2 => 2 | 3 => 4 | 4 => 5 | n => n⟩
theorem Tryd.laysPu14 : Go.Proofs.LaysPu.n14 Tryd.prog Tryd.laysPu14_ren := {
 mixed := by kernel_rfl
 f14 := Tryd.func56.trans (congrArg some (by kernel_rfl))
 f16 := Tryd.func77.trans (congrArg some (by kernel_rfl))
 f17 := Tryd.func78.trans (congrArg some (by kernel_rfl))
 f19 := Tryd.func90.trans (congrArg some (by kernel_rfl))
 f20 := Tryd.func91.trans (congrArg some (by kernel_rfl))
 f21 := Tryd.func92.trans (congrArg some (by kernel_rfl))
 f22 := Tryd.func93.trans (congrArg some (by kernel_rfl))
 f23 := Tryd.func94.trans (congrArg some (by kernel_rfl))
 f24 := Tryd.func95.trans (congrArg some (by kernel_rfl))
 f25 := Tryd.func103.trans (congrArg some (by kernel_rfl))
 f26 := Tryd.func104.trans (congrArg some (by kernel_rfl))
 f27 := Tryd.func47.trans (congrArg some (by kernel_rfl))
 f28 := Tryd.func68.trans (congrArg some (by kernel_rfl))
 f29 := Tryd.func83.trans (congrArg some (by kernel_rfl))
 f30 := Tryd.func97.trans (congrArg some (by kernel_rfl))
 f31 := Tryd.func98.trans (congrArg some (by kernel_rfl))
 f32 := Tryd.func99.trans (congrArg some (by kernel_rfl))
 f33 := Tryd.func100.trans (congrArg some (by kernel_rfl))
 f34 := Tryd.func105.trans (congrArg some (by kernel_rfl))
 f35 := Tryd.func106.trans (congrArg some (by kernel_rfl))
 f36 := Tryd.func107.trans (congrArg some (by kernel_rfl))
 f37 := Tryd.func108.trans (congrArg some (by kernel_rfl))
 f38 := Tryd.func109.trans (congrArg some (by kernel_rfl))
 f39 := Tryd.func110.trans (congrArg some (by kernel_rfl))
 f40 := Tryd.func111.trans (congrArg some (by kernel_rfl))
 t0 := Tryd.underlying0
 a0 := Tryd.isAgg0
 z0 := Tryd.sizeOf0
 v0 := Tryd.zeroValue0
 i0 := by kernel_rfl
 t2 := Tryd.underlying2
 a2 := Tryd.isAgg2
 z2 := Tryd.sizeOf2
 v2 := Tryd.zeroValue2
 i2 := by kernel_rfl
 t3 := Tryd.underlying3
 a3 := Tryd.isAgg3
 z3 := Tryd.sizeOf3
 v3 := Tryd.zeroValue3
 i3 := by kernel_rfl
 t4 := Tryd.underlying4
 a4 := Tryd.isAgg4
 z4 := Tryd.sizeOf4
 v4 := Tryd.zeroValue4
 i4 := by kernel_rfl
 t5 := Tryd.underlying5
 a5 := Tryd.isAgg5
 z5 := Tryd.sizeOf5
 v5 := Tryd.zeroValue5
 i5 := by kernel_rfl
 t9 := Tryd.underlying9
 a9 := Tryd.isAgg9
 z9 := Tryd.sizeOf9
 v9 := Tryd.zeroValue9
 i9 := by kernel_rfl
 t20 := Tryd.underlying20
 a20 := Tryd.isAgg20
 z20 := Tryd.sizeOf20
 v20 := Tryd.zeroValue20
 i20 := by kernel_rfl
 t21 := Tryd.underlying21
 a21 := Tryd.isAgg21
 z21 := Tryd.sizeOf21
 v21 := Tryd.zeroValue21
 i21 := by kernel_rfl
 t22 := Tryd.underlying58
 a22 := Tryd.isAgg58
 z22 := Tryd.sizeOf58
 v22 := Tryd.zeroValue58
 i22 := by kernel_rfl
 t24 := Tryd.underlying75
 a24 := Tryd.isAgg75
 z24 := Tryd.sizeOf75
 v24 := Tryd.zeroValue75
 i24 := by kernel_rfl
 t25 := Tryd.underlying76
 a25 := Tryd.isAgg76
 z25 := Tryd.sizeOf76
 v25 := Tryd.zeroValue76
 i25 := by kernel_rfl
 t34 := Tryd.underlying108
 a34 := Tryd.isAgg108
 z34 := Tryd.sizeOf108
 v34 := Tryd.zeroValue108
 i34 := by kernel_rfl
 c34 := by kernel_rfl
 t36 := Tryd.underlying61
 a36 := Tryd.isAgg61
 z36 := Tryd.sizeOf61
 v36 := Tryd.zeroValue61
 i36 := by kernel_rfl
 t37 := Tryd.underlying37
 a37 := Tryd.isAgg37
 z37 := Tryd.sizeOf37
 v37 := Tryd.zeroValue37
 i37 := by kernel_rfl
 t39 := Tryd.underlying110
 a39 := Tryd.isAgg110
 z39 := Tryd.sizeOf110
 v39 := Tryd.zeroValue110
 i39 := by kernel_rfl
 t44 := Tryd.underlying122
 a44 := Tryd.isAgg122
 z44 := Tryd.sizeOf122
 v44 := Tryd.zeroValue122
 i44 := by kernel_rfl
 t47 := Tryd.underlying106
 a47 := Tryd.isAgg106
 z47 := Tryd.sizeOf106
 v47 := Tryd.zeroValue106
 i47 := by kernel_rfl
 t48 := Tryd.underlying129
 a48 := Tryd.isAgg129
 z48 := Tryd.sizeOf129
 v48 := Tryd.zeroValue129
 i48 := by kernel_rfl
 t50 := Tryd.underlying131
 a50 := Tryd.isAgg131
 z50 := Tryd.sizeOf131
 v50 := Tryd.zeroValue131
 i50 := by kernel_rfl
 t52 := Tryd.underlying113
 a52 := Tryd.isAgg113
 z52 := Tryd.sizeOf113
 v52 := Tryd.zeroValue113
 i52 := by kernel_rfl
 t55 := Tryd.underlying116
 a55 := Tryd.isAgg116
 z55 := Tryd.sizeOf116
 v55 := Tryd.zeroValue116
 i55 := by kernel_rfl
 t59 := Tryd.underlying126
 a59 := Tryd.isAgg126
 z59 := Tryd.sizeOf126
 v59 := Tryd.zeroValue126
 i59 := by kernel_rfl
 t60 := Tryd.underlying60
 a60 := Tryd.isAgg60
 z60 := Tryd.sizeOf60
 v60 := Tryd.zeroValue60
 i60 := by kernel_rfl
 t61 := Tryd.underlying127
 a61 := Tryd.isAgg127
 z61 := Tryd.sizeOf127
 t65 := Tryd.underlying132
 a65 := Tryd.isAgg132
 z65 := Tryd.sizeOf132
 v65 := Tryd.zeroValue132
 i65 := by kernel_rfl
 t66 := Tryd.underlying133
 a66 := Tryd.isAgg133
 z66 := Tryd.sizeOf133
 v66 := Tryd.zeroValue133
 i66 := by kernel_rfl
 t67 := Tryd.underlying29
 a67 := Tryd.isAgg29
 z67 := Tryd.sizeOf29
 v67 := Tryd.zeroValue29
 i67 := by kernel_rfl
 g0 := by kernel_rfl
 m0 := by kernel_rfl
 g1 := by kernel_rfl
 m1 := by kernel_rfl
 g2 := by kernel_rfl
 m2 := by kernel_rfl
 g3 := by kernel_rfl
 m3 := by kernel_rfl
 g4 := by kernel_rfl
 m4 := by kernel_rfl }
open Go.RowKit in
theorem Tryd.strconv_ParseUint_10_at32_ok (s : ByteArray) (hmax : s.size ≤ 9223372036854775806) (u : Nat) (h : Lib.parseUintB 32 s.data.toList = .ok u) (w : World) :
  Calls Tryd.prog 56 #[.string s, .int .i64 10, .int .i64 32] w fun e w' => e = .returned (.tuple #[.int .u64 u, .nilIface]) ∧ (w' = w ∨ w' = Lib.bytesWorld w 5 s) := Any.strconv_ParseUint_10_at32_ok Tryd.laysPu14 s hmax u h w
def Tryd.laysGw17_ren : Go.Shelf.Ren := ⟨fun | 17 => 54 | 15 => 76 | 20 => 89 | n => n, fun | 9 => 9 | 23 => 73 | 4 => 4 | 3 => 3 | 0 => 0 | 21 => 21 | n => n, fun | n => n⟩
theorem Tryd.laysGw17 : Go.Proofs.LaysGw.n17 Tryd.prog Tryd.laysGw17_ren := {
 mixed := by kernel_rfl
 f15 := Tryd.func76.trans (congrArg some (by kernel_rfl))
 f17 := Tryd.func54.trans (congrArg some (by kernel_rfl))
 f20 := Tryd.func89.trans (congrArg some (by kernel_rfl))
 t0 := Tryd.underlying0
 a0 := Tryd.isAgg0
 z0 := Tryd.sizeOf0
 v0 := Tryd.zeroValue0
 i0 := by kernel_rfl
 t3 := Tryd.underlying3
 a3 := Tryd.isAgg3
 z3 := Tryd.sizeOf3
 v3 := Tryd.zeroValue3
 i3 := by kernel_rfl
 t4 := Tryd.underlying4
 a4 := Tryd.isAgg4
 z4 := Tryd.sizeOf4
 v4 := Tryd.zeroValue4
 i4 := by kernel_rfl
 t9 := Tryd.underlying9
 a9 := Tryd.isAgg9
 z9 := Tryd.sizeOf9
 v9 := Tryd.zeroValue9
 i9 := by kernel_rfl
 t21 := Tryd.underlying21
 a21 := Tryd.isAgg21
 z21 := Tryd.sizeOf21
 v21 := Tryd.zeroValue21
 i21 := by kernel_rfl
 t23 := Tryd.underlying73
 a23 := Tryd.isAgg73
 z23 := Tryd.sizeOf73
 v23 := Tryd.zeroValue73
 i23 := by kernel_rfl }
open Go.RowKit Go.Lib in
theorem Tryd.strings_ContainsFunc (g : Nat) (lb : Array Value) (eg : ∀ args w, (callFunc g args).run Tryd.prog w = .ok (.enter g args) w) (p : Nat → Bool) (s : ByteArray) (w : World) (hp : PredAt Tryd.prog g lb encR p w) :
  Calls Tryd.prog 54 #[.string s, .func (.func g) #[] lb] w fun e w' => e = .returned (.bool (decide (0 ≤ Lib.idxFunc p true s))) ∧ Below w.heap.size w w' := Any.strings_ContainsFunc Tryd.laysGw17 g lb eg p s w hp
def Tryd.lays206_ren : Go.Shelf.Ren := ⟨fun | 206 => 86 | n => n, fun | 9 => 9 | 4 => 4 | 3 => 3 | n => n, fun | n => n⟩
theorem Tryd.lays206 : Go.Proofs.Lays.n206 Tryd.prog Tryd.lays206_ren := {
 mixed := by kernel_rfl
 f206 := Tryd.func86.trans (congrArg some (by kernel_rfl))
 t3 := Tryd.underlying3
 a3 := Tryd.isAgg3
 z3 := Tryd.sizeOf3
 v3 := Tryd.zeroValue3
 t4 := Tryd.underlying4
 a4 := Tryd.isAgg4
 z4 := Tryd.sizeOf4
 v4 := Tryd.zeroValue4
 t9 := Tryd.underlying9
 a9 := Tryd.isAgg9
 z9 := Tryd.sizeOf9
 v9 := Tryd.zeroValue9 }
open Go.RowKit Go.Lib in
theorem Tryd.stringslite_HasPrefix (s p : ByteArray) (w : World) :
  Calls Tryd.prog 86 #[.string s, .string p] w fun e w' => e = .returned (.bool (Lib.hasPrefix s.data.toList p.data.toList)) ∧ w' = w := Any.stringslite_HasPrefix Tryd.lays206 s p w
def Tryd.lays105_ren : Go.Shelf.Ren := ⟨fun | 105 => 48 | 212 => 69 | 99 => 70 | 165 => 71 | 166 => 72 | 170 => 73 | 169 => 74 | 263 => 84 | 264 => 85 | 206 => 86 | 240 => 87 | 241 => 88 | 276 => 101 | 277 => 102 | n => n, fun | 9 => 9 | 3 => 3 | 4 => 4 | 20 => 20 | 0 => 0 | 46 => 61 | 109 => 89 | 5 => 5 | 72 => 93 | 76 => 95 | 51 => 60 | 146 => 102 | 53 => 58 | 148 => 104 | 70 => 91 | 37 => 37 | 75 => 75 | 127 => 106 | 164 => 118 | 80 => 29 | n => n, fun | n => n⟩
theorem Tryd.lays105 : Go.Proofs.Lays.n105 Tryd.prog Tryd.lays105_ren := {
 mixed := by kernel_rfl
 f99 := Tryd.func70.trans (congrArg some (by kernel_rfl))
 f105 := Tryd.func48.trans (congrArg some (by kernel_rfl))
 f165 := Tryd.func71.trans (congrArg some (by kernel_rfl))
 f166 := Tryd.func72.trans (congrArg some (by kernel_rfl))
 f169 := Tryd.func74.trans (congrArg some (by kernel_rfl))
 f170 := Tryd.func73.trans (congrArg some (by kernel_rfl))
 f206 := Tryd.func86.trans (congrArg some (by kernel_rfl))
 f212 := Tryd.func69.trans (congrArg some (by kernel_rfl))
 f240 := Tryd.func87.trans (congrArg some (by kernel_rfl))
 f241 := Tryd.func88.trans (congrArg some (by kernel_rfl))
 f263 := Tryd.func84.trans (congrArg some (by kernel_rfl))
 f264 := Tryd.func85.trans (congrArg some (by kernel_rfl))
 f276 := Tryd.func101.trans (congrArg some (by kernel_rfl))
 f277 := Tryd.func102.trans (congrArg some (by kernel_rfl))
 t0 := Tryd.underlying0
 a0 := Tryd.isAgg0
 z0 := Tryd.sizeOf0
 v0 := Tryd.zeroValue0
 t3 := Tryd.underlying3
 a3 := Tryd.isAgg3
 z3 := Tryd.sizeOf3
 v3 := Tryd.zeroValue3
 t4 := Tryd.underlying4
 a4 := Tryd.isAgg4
 z4 := Tryd.sizeOf4
 v4 := Tryd.zeroValue4
 t5 := Tryd.underlying5
 a5 := Tryd.isAgg5
 z5 := Tryd.sizeOf5
 v5 := Tryd.zeroValue5
 t9 := Tryd.underlying9
 a9 := Tryd.isAgg9
 z9 := Tryd.sizeOf9
 v9 := Tryd.zeroValue9
 t20 := Tryd.underlying20
 a20 := Tryd.isAgg20
 z20 := Tryd.sizeOf20
 v20 := Tryd.zeroValue20
 t37 := Tryd.underlying37
 a37 := Tryd.isAgg37
 z37 := Tryd.sizeOf37
 v37 := Tryd.zeroValue37
 t46 := Tryd.underlying61
 a46 := Tryd.isAgg61
 z46 := Tryd.sizeOf61
 v46 := Tryd.zeroValue61
 t51 := Tryd.underlying60
 a51 := Tryd.isAgg60
 z51 := Tryd.sizeOf60
 v51 := Tryd.zeroValue60
 t53 := Tryd.underlying58
 a53 := Tryd.isAgg58
 z53 := Tryd.sizeOf58
 v53 := Tryd.zeroValue58
 t70 := Tryd.underlying91
 a70 := Tryd.isAgg91
 z70 := Tryd.sizeOf91
 v70 := Tryd.zeroValue91
 t72 := Tryd.underlying93
 a72 := Tryd.isAgg93
 z72 := Tryd.sizeOf93
 v72 := Tryd.zeroValue93
 t75 := Tryd.underlying75
 a75 := Tryd.isAgg75
 z75 := Tryd.sizeOf75
 v75 := Tryd.zeroValue75
 t76 := Tryd.underlying95
 a76 := Tryd.isAgg95
 z76 := Tryd.sizeOf95
 v76 := Tryd.zeroValue95
 t109 := Tryd.underlying89
 a109 := Tryd.isAgg89
 z109 := Tryd.sizeOf89
 v109 := Tryd.zeroValue89
 t127 := Tryd.underlying106
 a127 := Tryd.isAgg106
 z127 := Tryd.sizeOf106
 v127 := Tryd.zeroValue106
 t146 := Tryd.underlying102
 a146 := Tryd.isAgg102
 z146 := Tryd.sizeOf102
 v146 := Tryd.zeroValue102
 t148 := Tryd.underlying104
 a148 := Tryd.isAgg104
 z148 := Tryd.sizeOf104
 v148 := Tryd.zeroValue104
 t164 := Tryd.underlying118
 a164 := Tryd.isAgg118
 z164 := Tryd.sizeOf118
 v164 := Tryd.zeroValue118 }
theorem Tryd.Builder_Extra_105 : Builder.Extra Tryd.prog Tryd.lays105_ren := {
 sizeBuilder := by kernel_rfl
 liesBuilder := by kernel_rfl
 t5 := Tryd.underlying5
 a5 := Tryd.isAgg5
 z5 := Tryd.sizeOf5
 v5 := Tryd.zeroValue5
 infoByte := by kernel_rfl
 cellsByte := by kernel_rfl
 sizeByte := by kernel_rfl
 neB5 := by decide }
open Go.RowKit Go.Lib in
theorem Tryd.strings_Repeat (s : ByteArray) (c : Nat) (w : World) (hc : c ≤ 9223372036854775807) (hlen : s.size * c ≤ 140737488355328) :
  Calls Tryd.prog 48 #[.string s, .int .i64 c] w fun e w' => e = .returned (.string ⟨(Lib.repeatL s.data.toList c).toArray⟩) ∧ Below w.heap.size w w' := Any.strings_Repeat Tryd.lays105 Tryd.Builder_Extra_105 s c w hc hlen
end Go.Proofs
namespace Go.Proofs.YtiikfhdmclmjmaaDoorW.PrintWords
open Go.RowKit
namespace Kd
def Z {α : Type} (V : Value) (pre post : List α) (d : Kd α) (e : Nat) (w : World) (base : Nat) (ok : Nat → Prop) (v : Value) (xs : List α) : Prop :=
 (∀ k, v.ownBlock = some k → ok k) ∧ ∃ g N C c, V = .slice (some ⟨g, 0, none⟩) N C ∧ v = .slice (some ⟨g, pre.length, none⟩) xs.length c ∧ xs.length ≤ c ∧ d.R e w base ok V (pre ++ (xs ++ post))
section
variable {α : Type} {d : Kd α} {e : Nat} {w w1 : World} {base : Nat} {ok ok' : Nat → Prop} {V v : Value} {pre post xs : List α}
theorem Z_R (h : Z V pre post d e w base ok v xs) : d.R e w base ok V (pre ++ (xs ++ post)) := by
 obtain ⟨hz0, g, N, C, c, h1, h2, h3, h4⟩ := h
 exact h4
theorem Z_mono (h : Z V pre post d e w base ok v xs) (hok : ∀ k, ok k → ok' k) : Z V pre post d e w base ok' v xs := by
 obtain ⟨h0, g, N, C, c, h1, h2, h3, h4⟩ := h
 exact ⟨fun k hk => hok k (h0 k hk), g, N, C, c, h1, h2, h3, R_mono h4 hok⟩
theorem Z_step (h : Z V pre post d e w base ok v xs) (hm : ∀ k, ok k → k < w.heap.size → w1.heap[k]? = w.heap[k]?) : Z V pre post d e w1 base ok v xs := by
 obtain ⟨h0, g, N, C, c, h1, h2, h3, h4⟩ := h
 exact ⟨h0, g, N, C, c, h1, h2, h3, R_step h4 hm⟩
theorem Z_below (h : Z V pre post d e w base ok v xs) (hb : Below w.heap.size w w1) : Z V pre post d e w1 base ok v xs := Z_step h (fun k _ hk => hb.block k hk)
theorem Z_alloc (h : Z V pre post d e w base ok v xs) (o : Obj) : Z V pre post d e (w.alloc o) base ok v xs := Z_below h (below_alloc (Below.refl _ _) o)
theorem Z_drew (h : Z V pre post d e w base ok v xs) : Z V pre post d e w.drew base ok v xs := Z_below h (below_drew (Below.refl _ _))
theorem Z_drewN (h : Z V pre post d e w base ok v xs) (m : Nat) : Z V pre post d e (w.drewN m) base ok v xs := Z_below h (pw_below_drewN (Below.refl _ _) m)
theorem Z_at {m : Nat} {w' : World} (hq : w.drewN m = w') (h : Z V pre post d e w base ok v xs) : Z V pre post d e w' base ok v xs := by subst hq; exact Z_drewN h m
theorem Z_form (h : Z V pre post d e w base ok v xs) (hp : 0 < xs.length) : ∃ g o cap, v = .slice (some ⟨g, o, none⟩) xs.length cap ∧ base ≤ g ∧ g < w.heap.size ∧ ∃ cells, w.heap[g]? = some (.cells cells e (0, 0)) := by
 obtain ⟨hz0, g, N, C, c, rfl, rfl, h3, h4⟩ := h
 obtain ⟨g', cap, k1, k2, k3, k4⟩ := R_form h4 (by simp; omega)
 injection k1 with k1 _ _
 injection k1 with k1
 injection k1 with k1 _ _
 subst k1
 exact ⟨g, pre.length, c, rfl, k2, k3, k4⟩
theorem Z_slice (h : Z V pre post d e w base ok v xs) : ∃ A c, v = .slice A xs.length c ∧ xs.length ≤ c := by
 obtain ⟨hz0, g, N, C, c, h1, h2, h3, h4⟩ := h
 exact ⟨_, c, h2, h3⟩
end
section
variable {α : Type} {enc : α → Value} {h1 : ∀ x, (enc x).oneCell' = true} {e base g o n cap : Nat} {ok : Nat → Prop} {W : World} {V v : Value} {pre post xs : List α}
theorem Z_reads' {A : Option Addr} (h : Z V pre post (scalar enc h1) e W base ok (.slice A n cap) xs) : n = xs.length ∧ n ≤ cap ∧ (scalar enc h1).C W A xs.length xs := by
 obtain ⟨hz0, g, N, C, c, rfl, hv, h3, h4⟩ := h
 injection hv with k1 k2 k3
 subst k1; subst k2; subst k3
 refine ⟨rfl, h3, ?_⟩
 obtain ⟨r1, r2, r3⟩ := R_reads' h4
 have hl : (pre ++ (xs ++ post)).length = pre.length + (xs.length + post.length) := by simp
 have := C_mid (lo := pre.length) (hi := pre.length + xs.length) (c := (pre ++ (xs ++ post)).length + xs.length + 1) r3 (by omega) (by omega) (by omega)
 rw [if_neg (by omega)] at this
 have hm : ((pre ++ (xs ++ post)).take (pre.length + xs.length)).drop pre.length = xs := by
  rw [List.take_length_add_append, List.drop_left, List.take_left]
 rw [hm] at this
 have hs : (scalar enc h1).sz = 1 := rfl
 rw [hs, Nat.mul_one] at this
 have ha : (some (⟨g, 0, none⟩ : Addr)).map (·.add pre.length) = some ⟨g, pre.length, none⟩ := by
  simp [Addr.add]
  intro hp
  simp [hp]
 rw [ha] at this
 exact this
theorem Z_cell (d : α) (h : Z V pre post (scalar enc h1) e W base ok (.slice (some ⟨g, o, none⟩) n cap) xs) (i : Int) (h0 : 0 ≤ i) (hi : i < n) : W.cell? ⟨g, o + i.toNat, none⟩ = some (enc (rdOf d xs i)) ∧ W.frozen? ⟨g, o + i.toNat, none⟩ = false := by
 obtain ⟨hz0, g', N, C, c, rfl, hv, h3, h4⟩ := h
 injection hv with k1 k2 k3
 injection k1 with k1
 injection k1 with k1 k4 _
 subst k1; subst k2; subst k3; subst k4
 have hl : (pre ++ (xs ++ post)).length = pre.length + (xs.length + post.length) := by simp
 have hN := (R_reads' h4).1
 have := R_celln d h4 ((pre.length : Int) + i) (by omega) (by omega)
 have e1 : ((pre.length : Int) + i).toNat = pre.length + i.toNat := by omega
 have e2 : rdOf d (pre ++ (xs ++ post)) ((pre.length : Int) + i) = rdOf d xs i := by
  unfold rdOf
  rw [e1, List.getD_eq_getElem?_getD, List.getD_eq_getElem?_getD, List.getElem?_append_right (by omega), Nat.add_sub_cancel_left, List.getElem?_append_left (by omega)]
 rw [e1, e2] at this
 exact this
theorem Z_putg (h : Z V pre post (scalar enc h1) e W base ok (.slice (some ⟨g, o, none⟩) n cap) xs) (i : Int) (h0 : 0 ≤ i) (hi : i < n) (x : α) : Z V pre post (scalar enc h1) e (W.setCell ⟨g, o + i.toNat, none⟩ (enc x)) base ok (.slice (some ⟨g, o, none⟩) n cap) (xs.set i.toNat x) ∧ W.grownBy (W.setCell ⟨g, o + i.toNat, none⟩ (enc x)) (some g) := by
 obtain ⟨hz0, g', N, C, c, rfl, hv, h3, h4⟩ := h
 injection hv with k1 k2 k3
 injection k1 with k1
 injection k1 with k1 k4 _
 subst k1; subst k2; subst k3; subst k4
 obtain ⟨p1, p2⟩ := R_putg h4 ((pre.length : Int) + i) x
 have e1 : ((pre.length : Int) + i).toNat = pre.length + i.toNat := by omega
 rw [e1] at p1 p2
 refine ⟨⟨hz0, g, N, C, cap, rfl, by rw [List.length_set], by rw [List.length_set]; exact h3, ?_⟩, p2⟩
 have e2 : (pre ++ (xs ++ post)).set (pre.length + i.toNat) x = pre ++ (xs.set i.toNat x ++ post) := by
  rw [List.set_append_right _ _ (by omega), Nat.add_sub_cancel_left, List.set_append_left _ _ (by omega)]
 rw [e2] at p1
 exact p1
theorem Z_mk {U : List α} {lo hi : Nat} {N C m c : Nat} (h : (scalar enc h1).R e W base ok (.slice (some ⟨g, 0, none⟩) N C) U) (h2 : lo ≤ hi) (h3 : hi ≤ U.length) (hm : m = hi - lo) (hc : m ≤ c) : Z (.slice (some ⟨g, 0, none⟩) N C) (U.take lo) (U.drop hi) (scalar enc h1) e W base ok (.slice (some ⟨g, lo, none⟩) m c) ((U.take hi).drop lo) := by
 have e1 : (U.take lo).length = lo := by rw [List.length_take]; omega
 have e2 : ((U.take hi).drop lo).length = hi - lo := by rw [List.length_drop, List.length_take]; omega
 refine ⟨h.1, g, N, C, c, rfl, by rw [e1, e2, hm], by omega, ?_⟩
 have e3 : U.take lo ++ ((U.take hi).drop lo ++ U.drop hi) = U := by
  rw [← List.append_assoc]
  have : U.take lo ++ (U.take hi).drop lo = U.take hi := by
   have h5 := List.take_append_drop lo (U.take hi)
   rwa [List.take_take, Nat.min_eq_left h2] at h5
  rw [this, List.take_append_drop]
 rw [e3]
 exact h
end
end Kd
def Win (V : Value) (lo hi : Int) (A : Option Addr) (n c : Nat) : Prop :=
 ∃ (A0 : Option Addr) (N C : Nat), V = .slice A0 N C ∧ 0 ≤ lo ∧ lo ≤ hi ∧ hi ≤ (N : Int) ∧ n = hi.toNat - lo.toNat ∧ n ≤ c ∧ A = (if C = lo.toNat then A0 else A0.map (·.add (lo.toNat * 1)))
theorem ite_some {α : Type} {p : Prop} [Decidable p] {x : Option α} {r : α} (h : (if p then x else none) = some r) : p ∧ x = some r := by
 by_cases c : p
 ·
  rw [if_pos c] at h
  exact ⟨c, h⟩
 ·
  rw [if_neg c] at h
  cases h
theorem ite_none {α : Type} {p : Prop} [Decidable p] {x : Option α} {r : α} (h : (if p then none else x) = some r) : ¬ p ∧ x = some r := by
 by_cases c : p
 ·
  rw [if_pos c] at h
  cases h
 ·
  rw [if_neg c] at h
  exact ⟨c, h⟩
inductive UpI (w : World) : World → Prop
 | refl : UpI w w
 | alloc {w' : World} (h : UpI w w') (o : Obj) : UpI w (w'.alloc o)
 | drewN {w' : World} (h : UpI w w') (m : Nat) : UpI w (w'.drewN m)
 | drew {w' : World} (h : UpI w w') : UpI w w'.drew
class Up (w w' : World) : Prop where
 up : UpI w w'
instance up_refl (w : World) : Up w w := ⟨.refl⟩
instance up_alloc (w w' : World) (o : Obj) [h : Up w w'] : Up w (w'.alloc o) := ⟨.alloc h.up o⟩
instance up_drewN (w w' : World) (m : Nat) [h : Up w w'] : Up w (w'.drewN m) := ⟨.drewN h.up m⟩
instance up_drew (w w' : World) [h : Up w w'] : Up w w'.drew := ⟨.drew h.up⟩
section
variable {w w' : World} [u : Up w w']
theorem blk_up {g : Nat} {o : Obj} (h : w.heap[g]? = some o) : w'.heap[g]? = some o := by
 induction u.up with
 | refl => exact h
 | alloc _ o' ih => exact blk_alloc ih o'
 | drewN _ m ih => exact blk_drewN ih m
 | drew _ ih => exact blk_drew ih
theorem below_up {w0 : World} (h : Below w0.heap.size w0 w) : Below w0.heap.size w0 w' := by
 induction u.up with
 | refl => exact h
 | alloc _ o' ih => exact below_alloc ih o'
 | drewN _ m ih => exact pw_below_drewN ih m
 | drew _ ih => exact below_drew1 ih
theorem kept_up {w0 : World} {S : Nat → Prop} (h : Kept w0 w S) : Kept w0 w' S := by
 induction u.up with
 | refl => exact h
 | alloc _ o' ih => exact Kept.alloc ih o'
 | drewN _ m ih => exact Kept.drewN ih m
 | drew _ ih => exact Kept.drew ih
theorem blk_nw {g n : Nat} {o : Obj} (hg : n = w'.heap.size) (h : w.heap[g]? = some o) : g ≠ n := by
 rw [hg]
 exact Nat.ne_of_lt (blk_lt (blk_up (w' := w') h))
theorem nw_blk {g n : Nat} {o : Obj} (hg : n = w'.heap.size) (h : w.heap[g]? = some o) : n ≠ g := (blk_nw hg h).symm
theorem size_up {n : Nat} {w0 : World} (hg : n = w'.heap.size) (h : Below w0.heap.size w0 w) : w0.heap.size ≤ n := by
 rw [hg]
 exact below_size (below_up h)
end
class Ups (w : outParam World) (w' : World) : Prop where
 up : UpI w w'
instance ups_refl (w : World) : Ups w w := ⟨.refl⟩
instance ups_alloc (w w' : World) (o : Obj) [h : Ups w w'] : Ups w (w'.alloc o) := ⟨.alloc h.up o⟩
instance ups_drewN (w w' : World) (m : Nat) [h : Ups w w'] : Ups w (w'.drewN m) := ⟨.drewN h.up m⟩
instance ups_drew (w w' : World) [h : Ups w w'] : Ups w w'.drew := ⟨.drew h.up⟩
theorem blk_ups {w w' : World} [u : Ups w w'] {g : Nat} {o : Obj} (h : w.heap[g]? = some o) : w'.heap[g]? = some o := @blk_up w w' ⟨u.up⟩ g o h
theorem gl_ {P : Program} {ops : Array Oper} {Q : Exit → Act → World → Prop} {rest : List Oper} {oi : Oper} {a : Act} {w : World} (N : Option Tmp) {f : FuncId} {fn : Func} {xs : Array Operand} {ts : Array TypeId} (hf : P.funcs[f]? = some fn) (args : Array Value)
  (h : Calls P f args w fun e w' => ∃ v, e = .returned v ∧ wpList P ops Q rest (a.put N v) w') (hop : oi.op = .call { callee := .value (.func f), args := xs, argTypes := ts } := by rfl) (hd : oi.dst = N := by rfl) (hg : oi.guard = none := by rfl) (hname : (fn.name == "runtime.NumGoroutine") = false := by kernel_rfl) (hb : fn.body.isSome = true := by rfl)
  (hargs : xs.map a.eval = args := by (try simp only [List.map_toArray, List.map_cons, List.map_nil]); first | done | rfl | (simp only [List.length_drop, List.length_take]; rfl)) : wpList P ops Q (oi :: rest) a w :=
 PrintLast.goesL_ N hd hg hf hname hb args hop hargs h
section
variable {P : Program} {ops : Array Oper} {Q : Exit → Act → World → Prop} {md : Region.Mode} {S : World → Prop} {ds : List Nat} {T : Bool × List (List Nat × List Nat)} {oi : Oper} {v : Value} {fuel : Nat} {l : Array Bool} {a a' : Act} {w : World}
def bs (m n : Nat) : Array Bool := ⟨List.replicate m true ++ List.replicate n false⟩
theorem pu_ (i : Nat) (N : Option Tmp) (l' : Array Bool) (hT : PrintLast.rtab md ops = T) (h : PrintLast.wpAnyLast P md ops Q S ds fuel l' a' w)
  (hi : ops[i]? = some oi := by rfl) (hN : oi.dst = N := by rfl) (hc : PrintLast.anyT T l.toList l'.toList i = true := by kernel_rfl) (hQ : ∀ c a w, Q (.panic c) (a.put oi.dst v) w → Q (.panic c) a w := by exact fun _ _ _ h => h)
  (hy : Yields P ops oi v a := by exact Or.inl ⟨by rfl, by intro w'; go_simp; with_reducible rfl⟩) (ha : a.put N v = a' := by simp only [Act.put, List.setIfInBounds_toArray, List.set_cons_zero, List.set_cons_succ, Go.Proofs.YtiikfhdmclmjmaaDoorW.PrintLast.i64_w, Go.Proofs.YtiikfhdmclmjmaaDoorW.PrintLast.i32_w]; rfl) :
  PrintLast.wpAnyLast P md ops Q S ds (fuel + 1) l a w := PrintLast.pure_ l' hi hN (PrintLast.any_of hT hc) hQ hy ha h
end
namespace Kd
section
variable {w w' : World} [u : Up w w'] {α : Type} {d : Kd α} {e base : Nat} {ok : Nat → Prop} {v : Value} {xs : List α}
theorem R_up (h : d.R e w base ok v xs) : d.R e w' base ok v xs := by
 induction u.up with
 | refl => exact h
 | alloc _ o' ih => exact R_alloc ih o'
 | drewN _ m ih => exact R_drewN ih m
 | drew _ ih => exact R_drew ih
theorem V_up (h : V d e w base ok v xs) : V d e w' base ok v xs := by
 induction u.up with
 | refl => exact h
 | alloc _ o' ih => exact V_alloc ih o'
 | drewN _ m ih => exact V_drewN ih m
 | drew _ ih => exact V_drew ih
theorem Z_up {T : Value} {pre post : List α} (h : Z T pre post d e w base ok v xs) : Z T pre post d e w' base ok v xs := by
 induction u.up with
 | refl => exact h
 | alloc _ o' ih => exact Z_alloc ih o'
 | drewN _ m ih => exact Z_drewN ih m
 | drew _ ih => exact Z_drew ih
end
end Kd
class GeB (b g : Nat) : Prop where
 out : b ≤ g
class UpS (w0 w w' : World) : Prop where
 up : Below w0.heap.size w0 w → Below w0.heap.size w0 w'
instance upS_refl (w0 w : World) : UpS w0 w w := ⟨id⟩
instance upS_alloc (w0 w w' : World) (o : Obj) [h : UpS w0 w w'] : UpS w0 w (w'.alloc o) := ⟨fun x => below_alloc (h.up x) o⟩
instance upS_drewN (w0 w w' : World) (m : Nat) [h : UpS w0 w w'] : UpS w0 w (w'.drewN m) := ⟨fun x => pw_below_drewN (h.up x) m⟩
instance upS_drew (w0 w w' : World) [h : UpS w0 w w'] : UpS w0 w w'.drew := ⟨fun x => below_drew1 (h.up x)⟩
instance upS_set (w0 w w' : World) (g i : Nat) (v : Value) [h : UpS w0 w w'] [hg : GeB w0.heap.size g] : UpS w0 w (w'.setCell ⟨g, i, none⟩ v) := ⟨fun x => below_set (h.up x) hg.out⟩
end Go.Proofs.YtiikfhdmclmjmaaDoorW.PrintWords
namespace Go.Proofs.YtiikfhdmclmjmaaDoor.P
open Go.RowKit Go.Proofs.YtiikfhdmclmjmaaDoorW.PrintWords Go.Proofs.YtiikfhdmclmjmaaDoorW.PrintLast
def errW : Option Int → Value
 | none => .nilIface
 | some c => .iface 108 (.int .i64 c)
theorem errW_none : errW none = .nilIface := rfl
theorem errW_some (c : Int) : errW (some c) = .iface 108 (.int .i64 c) := rfl
def G (w : World) : Prop := Lib.TabIs Tryd.prog w "internal/strconv.uint64pow10" .u64 Lib.pow10Tab
theorem G_below {w w' : World} (h : G w) (hb : Below w.heap.size w w') : G w' := by
 unfold G Lib.TabIs World.var? at *
 obtain ⟨g, hg⟩ : ∃ g, Tryd.prog.globalNamed "internal/strconv.uint64pow10" = some g := by
  cases hg : Tryd.prog.globalNamed "internal/strconv.uint64pow10" with
  | none => rw [hg] at h; simp at h
  | some g => exact ⟨g, rfl⟩
 simp only [hg, Option.bind_some] at h ⊢
 by_cases hl : g < w.heap.size
 ·
  rw [hb.block g hl]; exact h
 ·
  rw [show w.heap[g]? = none by simp; omega] at h; simp at h
theorem below_grow_ (w : World) (k : Nat) (os : Array Obj) : Below w.heap.size w (Go.Sort.grow (w.drewN k) os) :=
 ⟨rfl, rfl, rfl, by simp [Go.Sort.grow], fun i hi => by simp [Go.Sort.grow, Array.getElem?_append, hi]⟩
theorem wrap64_of_ (z : Int) (h0 : -9223372036854775808 ≤ z) (h1 : z ≤ 9223372036854775807) : wrap64 z = z := by unfold wrap64; omega
theorem cell_same {w : World} {p q : Addr} {u v : Value} (hq : w.cell? q = some u) (hp : w.cell? p = some v) : (w.setCell p v).cell? q = some u := by
 by_cases e : p = q
 ·
  subst e
  rw [hq] at hp
  cases hp
  exact World.cell?_setCell_same w p _ hq
 ·
  exact (World.cell?_setCell_other w p q _ e).trans hq
theorem info3 : (Tryd.prog.info? 3).map (fun i => (i.zero, i.size, i.bytes)) = some (some (.int .i64 0), 1, 8) := by kernel_rfl
theorem info5 : (Tryd.prog.info? 5).map (fun i => (i.zero, i.size, i.bytes)) = some (some (.int .u8 0), 1, 1) := by kernel_rfl
theorem info9 : (Tryd.prog.info? 9).map (fun i => (i.zero, i.size, i.bytes)) = some (some (.string ⟨#[]⟩), 1, 16) := by kernel_rfl
theorem info60 : (Tryd.prog.info? 60).map (fun i => (i.zero, i.size, i.bytes)) = some (some (.int .u32 0), 1, 4) := by kernel_rfl
structure S25 where
 f0 : Bool
 f1 : (List Int)
def z25 : S25 := ⟨false, ([] : List Int)⟩
def integer_trim.l0 : Nat → List Int → Option (List Int)
 | 0, _ => none
 | k + 1, x0 => if (x0.length : Int) > 0 then (if 0 ≤ (wrap64 ((x0.length : Int) - 1)) then (if (wrap64 ((x0.length : Int) - 1)) < (x0.length : Int) then (if (rd x0 (wrap64 ((x0.length : Int) - 1))) = 0 then (if (wrap64 ((x0.length : Int) - 1)) ≤ (x0.length : Int) then (integer_trim.l0 k (x0.take ((wrap64 ((x0.length : Int) - 1)) : Int).toNat)) else (none)) else (some x0)) else (none)) else (none)) else (some x0)
def integer_trim.f (k : Nat) (l0 : List Int) : Option (List Int) := integer_trim.l0 k l0
theorem integer_trim.mono_l : ∀ k, (∀ y0, LeO (integer_trim.l0 k y0) (integer_trim.l0 (k + 1) y0))
 | 0 => fun _ r h => by simp [integer_trim.l0] at h
 | k + 1 => by
  have ih0 := integer_trim.mono_l k
  ·
   intro y0
   unfold integer_trim.l0
   repeat' with_reducible first | exact ih0 _ | exact LeO.refl _ | exact LeO.none _ | refine LeO.ite ?_ ?_ | refine LeO.bind ?_ (fun _ => ?_)
theorem integer_trim.mono : ∀ a0 k, LeO (integer_trim.f k a0) (integer_trim.f (k + 1) a0) := by
 intro a0 k
 have ih0 := integer_trim.mono_l k
 unfold integer_trim.f
 repeat' with_reducible first | exact ih0 _ | exact LeO.refl _ | exact LeO.none _ | refine LeO.ite ?_ ?_ | refine LeO.bind ?_ (fun _ => ?_)
set_option maxHeartbeats 8000000 in
set_option maxRecDepth 100000 in
theorem integer_trim.calls (k : Nat) (P0_ : Nat → Prop) (A0 : Option Addr) (c0 : Nat) (l0 : List Int) (r : List Int) (w : World) (hs0 : Kd.V (Kd.int .u32) 60 w w.heap.size (fun k_ => P0_ k_) (.slice A0 l0.length c0) l0) (h : integer_trim.f k l0 = some r) :
  Calls Tryd.prog 67 #[.slice A0 l0.length c0] w fun e w' => ∃ v0_ : Value, e = .returned (v0_) ∧ Kd.V (Kd.int .u32) 60 w' w.heap.size (fun k_ => (P0_ k_ ∨ w.heap.size ≤ k_)) v0_ r ∧ Below w.heap.size w w' := by
 have HO0 := Aside0.mk (show Kd.V (Kd.int .u32) 60 w w.heap.size (fun k_ => (P0_ k_ ∨ w.heap.size ≤ k_)) (.slice A0 l0.length c0) l0 from Kd.V_mono hs0 (fun k_ hk => .inl hk))
 have HB := Aside0.mk (Below.refl w.heap.size w)
 have H := h
 unfold integer_trim.f at H
 clear h
 have H' := Aside0.mk H
 clear H
 go_enter Tryd.func67, Tryd.ntmps67
 go_wp2
 go_loopg [0] k (fun kq v0 w' => ∃ (x0_1 : List Int), Aside0 (integer_trim.l0 kq x0_1 = some r) ∧ Aside0 (kq ≤ k) ∧ Aside0 (Kd.V (Kd.int .u32) 60 w' w.heap.size (fun k_ => (P0_ k_ ∨ w.heap.size ≤ k_)) v0 x0_1) ∧ Aside0 (Below w.heap.size w w'))
 case atStart => exact ⟨(l0), H', ⟨Nat.le_refl _⟩, ⟨Kd.V_up HO0.out⟩, ⟨below_up HB.out⟩⟩
 case round =>
  clear H'
  obtain ⟨x0_1, HA, HK1, HO_0, HB⟩ := hrel
  cases gk with
  | zero => exact absurd HA.out (by simp [integer_trim.l0])
  | succ k1 =>
   have H := HA.out
   clear HA
   simp only [integer_trim.l0] at H
   by_cases c2 : (x0_1.length : Int) > 0
   ·
    rw [if_pos c2] at H
    have c2b0 := decide_eq_true c2
    have c2b1 : decide (0 < x0_1.length) = true := decide_eq_true (by omega)
    clear c2
    obtain ⟨ji3, hji3⟩ : ∃ j_ : Int, (wrap64 ((x0_1.length : Int) - 1)) = j_ := ⟨_, rfl⟩
    replace H : (if 0 ≤ (ji3) then (if (ji3) < (x0_1.length : Int) then (if (rd x0_1 (ji3)) = 0 then (if (ji3) ≤ (x0_1.length : Int) then (integer_trim.l0 k1 (x0_1.take ((ji3) : Int).toNat)) else (none)) else (some x0_1)) else (none)) else (none)) = some r := by first | (rw [hji3] at H; exact H) | (simp only [hji3] at H ⊢; exact H)
    have hji3w : (IntKind.i64.wrap ((x0_1.length : Int) - 1)) = ji3 := (i64_w _).trans hji3
    obtain ⟨c4, H⟩ := ite_some H
    have c4b0 := decide_eq_true c4
    clear c4
    obtain ⟨c5, H⟩ := ite_some H
    have c5b0 := decide_eq_true c5
    clear c5
    by_cases c6 : (rd x0_1 (ji3)) = 0
    ·
     rw [if_pos c6] at H
     have c6b0 : ((rd x0_1 (ji3)) == 0) = true := beq_iff_eq.mpr c6
     have c6b1 : ((rd x0_1 (ji3)) != 0) = false := bne_eq_false_iff_eq.mpr c6
     clear c6
     have c7b0 := eq_true (of_decide_eq_true (by assumption) : 0 ≤ (ji3))
     obtain ⟨c8, H⟩ := ite_some H
     have c8b0 := eq_true c8
     have c8b1 := decide_eq_true c8
     clear c8
     obtain ⟨y102, hy102⟩ : ∃ y_ : List Int, y_ = (x0_1.take ((ji3) : Int).toNat) := ⟨_, rfl⟩
     replace H : (integer_trim.l0 k1 y102) = some r := by first | (rw [hy102]; exact H) | exact H
     have Ny102 := Aside0.mk hy102
     clear hy102
     have H' := Aside0.mk H
     clear H
     obtain ⟨Ao9, co9, eo9⟩ := Kd.V_slice HO_0.out
     subst eo9
     have p101 : 0 ≤ ((ji3) : Int) := of_decide_eq_true (by assumption)
     have q101 : (ji3) < (x0_1.length : Int) := of_decide_eq_true (by assumption)
     obtain ⟨ad101, e101, hx101_0⟩ := Kd.at_int (Kd.V_reads' HO_0.out).2.2 (ji3) p101 q101
     cases e101
     replace p101 := eq_true p101
     replace q101 := eq_true q101
     have q10 : ((ji3) : Int) ≤ ((x0_1.length : Int) : Int) := of_decide_eq_true (by assumption)
     obtain ⟨i010, hi010, _, hsz10, _⟩ := info_parts info60
     have hroom10 : x0_1.length ≤ co9 := (Kd.V_reads' HO_0.out).2.1
     have hC10 : Kd.F (Kd.int .u32) _ _ (some ad101) x0_1.length x0_1 := (Kd.V_at (base := w.heap.size) HO_0.out).2.2
     have hcut10 := cut_to (P := Tryd.prog) 23 60 .i64 Tryd.underlying23 hi010 (some ad101) x0_1.length co9 (ji3) (of_decide_eq_true (by assumption)) q10 hroom10
     have hr10 := Kd.F_take (m := ((ji3) : Int).toNat) hC10 (by omega)
     have hy10 : y102.length = ((ji3) : Int).toNat := (by rw [Ny102.out, List.length_take]; omega)
     rw [← Ny102.out] at hr10
     rw [← hy10] at hcut10
     have HO106 := Aside0.mk (show Kd.V (Kd.int .u32) 60 _ w.heap.size _ (.slice (some ad101) y102.length co9) y102 from Kd.V_mk (by omega) hr10)
     have HC106 := Aside0.mk (show y102.length ≤ co9 from by omega)
     clear hr10 hC10 hroom10 hi010 hsz10
     have KY10 := Aside0.mk hy10
     clear hy10
     replace q10 := eq_true q10
     go_wp2
     go_roundg k1
     case measure => have := HK1.out; omega
     case rel => exact ⟨(y102), H', ⟨by have := HK1.out; omega⟩, ⟨Kd.V_up HO106.out⟩, ⟨below_up HB.out⟩⟩
    ·
     rw [if_neg c6] at H
     have c6b0 : ((rd x0_1 (ji3)) == 0) = false := beq_eq_false_iff_ne.mpr c6
     have c6b1 : ((rd x0_1 (ji3)) != 0) = true := bne_iff_ne.mpr c6
     obtain rfl := Option.some.inj H
     obtain ⟨Ao11, co11, eo11⟩ := Kd.V_slice HO_0.out
     subst eo11
     have p101 : 0 ≤ ((ji3) : Int) := of_decide_eq_true (by assumption)
     have q101 : (ji3) < (x0_1.length : Int) := of_decide_eq_true (by assumption)
     obtain ⟨ad101, e101, hx101_0⟩ := Kd.at_int (Kd.V_reads' HO_0.out).2.2 (ji3) p101 q101
     cases e101
     replace p101 := eq_true p101
     replace q101 := eq_true q101
     go_wp2
     go_ret
     exact ⟨_, by first | rfl | (simp [errW_none, errW_some] <;> rfl) | (simp only [← hji3]; first | rfl | (simp [errW_none, errW_some] <;> rfl)) | (simp [*, errW_none, errW_some] <;> rfl), Kd.V_up HO_0.out, below_up HB.out⟩
   ·
    rw [if_neg c2] at H
    have c2b0 := decide_eq_false c2
    have c2b1 : decide (0 < x0_1.length) = false := decide_eq_false (by omega)
    clear c2
    obtain rfl := Option.some.inj H
    obtain ⟨Ao12, co12, eo12⟩ := Kd.V_slice HO_0.out
    subst eo12
    go_wp2
    go_ret
    exact ⟨_, by first | rfl | (simp [errW_none, errW_some] <;> rfl) | (simp [*, errW_none, errW_some] <;> rfl), Kd.V_up HO_0.out, below_up HB.out⟩
def integer_short.l0 : Nat → List Int → Int → List Int → Int → Int → Option (List Int × Int)
 | 0, _, _, _, _, _ => none
 | k + 1, x0, x1, x6, x7, x8 => if x8 ≥ 0 then (if 0 ≤ x8 then (if x8 < (x0.length : Int) then (if (IntKind.u64.wrap (x1)) = 0 then (none) else (if x8 < (x6.length : Int) then (integer_short.l0 k x0 x1 (x6.set (x8 : Int).toNat ((IntKind.u64.wrap (Int.tdiv (Go.bits .or .u64 (IntKind.u64.wrap (x7 * 4294967296)) (IntKind.u64.wrap (rd x0 x8))) (IntKind.u64.wrap (x1)))) % 4294967296)) (Int.tmod (Go.bits .or .u64 (IntKind.u64.wrap (x7 * 4294967296)) (IntKind.u64.wrap (rd x0 x8))) (IntKind.u64.wrap (x1))) (wrap64 (x8 - 1))) else (none))) else (none)) else (none)) else ((integer_trim.f k x6).bind fun t131 => (some (t131, (x7) % 4294967296)))
def integer_short.f (k : Nat) (l0 : List Int) (a1 : Int) : Option (List Int × Int) := if 0 ≤ (l0.length : Int) then (if ((l0.length : Int) : Int).toNat ≤ 70368744177664 then (integer_short.l0 k l0 a1 (List.replicate ((l0.length : Int) : Int).toNat 0) 0 (wrap64 ((l0.length : Int) - 1))) else (none)) else (none)
theorem integer_short.mono_l : ∀ k, (∀ y0 y1 y2 y3 y4, LeO (integer_short.l0 k y0 y1 y2 y3 y4) (integer_short.l0 (k + 1) y0 y1 y2 y3 y4))
 | 0 => fun _ _ _ _ _ r h => by simp [integer_short.l0] at h
 | k + 1 => by
  have ih0 := integer_short.mono_l k
  ·
   intro y0 y1 y2 y3 y4
   unfold integer_short.l0
   repeat' with_reducible first | exact ih0 _ _ _ _ _ | exact integer_trim.mono _ _ | exact LeO.refl _ | exact LeO.none _ | refine LeO.ite ?_ ?_ | refine LeO.bind ?_ (fun _ => ?_)
theorem integer_short.mono : ∀ a0 a1 k, LeO (integer_short.f k a0 a1) (integer_short.f (k + 1) a0 a1) := by
 intro a0 a1 k
 have ih0 := integer_short.mono_l k
 unfold integer_short.f
 repeat' with_reducible first | exact ih0 _ _ _ _ _ | exact integer_trim.mono _ _ | exact LeO.refl _ | exact LeO.none _ | refine LeO.ite ?_ ?_ | refine LeO.bind ?_ (fun _ => ?_)
set_option maxHeartbeats 8000000 in
set_option maxRecDepth 100000 in
theorem integer_short.calls (k : Nat) (A0 : Option Addr) (c0 : Nat) (l0 : List Int) (a1 : Int) (r1 : List Int) (r2 : Int) (w : World) (hr0 : Kd.C (Kd.int .u32) w A0 l0.length l0) (hc0 : l0.length ≤ c0) (h : integer_short.f k l0 a1 = some (r1, r2)) :
  Calls Tryd.prog 46 #[.slice A0 l0.length c0, .int .u32 a1] w fun e w' => ∃ v0_ : Value, e = .returned (.tuple #[v0_, .int .u32 r2]) ∧ Kd.V (Kd.int .u32) 60 w' w.heap.size (fun k_ => (w.heap.size ≤ k_)) v0_ r1 ∧ Below w.heap.size w w' := by
 have HR0 := Aside0.mk hr0
 have HC0 := Aside0.mk hc0
 clear hr0 hc0
 have HB := Aside0.mk (Below.refl w.heap.size w)
 have H := h
 unfold integer_short.f at H
 clear h
 by_cases c3 : 0 ≤ (l0.length : Int)
 ·
  rw [if_pos c3] at H
  have c3b0 := eq_true c3
  have c3b1 := decide_eq_true c3
  clear c3
  obtain ⟨c4, H⟩ := ite_some H
  have c4b0 := eq_true c4
  have c4b1 := decide_eq_true c4
  clear c4
  obtain ⟨y126, hy126⟩ : ∃ y_ : List Int, y_ = (List.replicate ((l0.length : Int) : Int).toNat 0) := ⟨_, rfl⟩
  replace H : (integer_short.l0 k l0 a1 y126 0 (wrap64 ((l0.length : Int) - 1))) = some (r1, r2) := by first | (rw [hy126]; exact H) | exact H
  have Ny126 := Aside0.mk hy126
  clear hy126
  have H' := Aside0.mk H
  clear H
  go_enter Tryd.func46, Tryd.ntmps46
  go_wp2_with (first | ((with_reducible refine gate_dst (N := 11) rfl ?_); refine Kd.R_make (Kd.int .u32) _ 60 rfl (N := 11) rfl 23 _ _ rfl (l0.length : Int) rfl rfl Tryd.underlying23 (.int .u32 0) 4 info60 rfl (by decide) (by omega) 0 (ok := fun _ => True) (okp := fun _ => True) rfl (fun _ hk => hk) trivial (of_decide_eq_true (by assumption)) (Nat.le_trans (Nat.mul_le_mul_right _ (of_decide_eq_true (by assumption) : (l0.length : Int).toNat ≤ 70368744177664)) (by omega)) (Below.refl _ _) (Nat.le_refl _) ?_; intro v127 w5 ho6 hb hg_ hnew_; clear hg_ hnew_; (first | rw [← Ny126.out] at ho6 | (simp only [Int.reduceToNat] at ho6; rw [← Ny126.out] at ho6)); have HO128 := Aside0.mk (Kd.R_lower (Kd.R_newM (M := fun k_ => (w.heap.size ≤ k_)) ho6 (below_size (below_up HB.out)) (fun k_ h_ => h_)) (below_size (below_up HB.out))); replace HB := Aside0.mk (below_step (below_up HB.out) hb); clear hb ho6))
  go_loopg [7, 8] k (fun kq v7 v8 w' => ∃ (x6_1 : List Int) (x7_1 : Int) (x8_1 : Int), v7 = .int .u64 x7_1 ∧ v8 = .int .i64 x8_1 ∧ Aside0 (integer_short.l0 kq l0 a1 x6_1 x7_1 x8_1 = some (r1, r2)) ∧ Aside0 (kq ≤ k) ∧ Aside0 (Kd.R (Kd.int .u32) 60 w' w.heap.size (fun k_ => (w.heap.size ≤ k_)) v127 x6_1) ∧ Aside0 (Below w.heap.size w w'))
  case atStart => exact ⟨(y126), (0), (wrap64 ((l0.length : Int) - 1)), (by first | rfl | (simp; done) | (simp [*]; done) | (simp <;> omega)), (by first | rfl | (simp; done) | (simp [*]; done) | (simp <;> omega)), H', ⟨Nat.le_refl _⟩, ⟨Kd.R_up (Kd.R_mono HO128.out (fun _ hk => hk.1))⟩, ⟨below_up HB.out⟩⟩
  case round =>
   clear H'
   obtain ⟨x6_1, x7_1, x8_1, rfl, rfl, HA, HK1, HO_6, HB⟩ := hrel
   cases gk with
   | zero => exact absurd HA.out (by simp [integer_short.l0])
   | succ k1 =>
    have H := HA.out
    clear HA
    simp only [integer_short.l0] at H
    by_cases c7 : x8_1 ≥ 0
    ·
     rw [if_pos c7] at H
     have c7b0 := decide_eq_true c7
     clear c7
     obtain ⟨c8, H⟩ := ite_some H
     have c8b0 := decide_eq_true c8
     clear c8
     obtain ⟨c9, H⟩ := ite_some H
     have c9b0 := decide_eq_true c9
     clear c9
     obtain ⟨c10, H⟩ := ite_none H
     have c10b0 : ((IntKind.u64.wrap (a1)) == 0) = false := beq_eq_false_iff_ne.mpr c10
     have c10b1 : ((IntKind.u64.wrap (a1)) != 0) = true := bne_iff_ne.mpr c10
     obtain ⟨c11, H⟩ := ite_some H
     have c11b0 := decide_eq_true c11
     clear c11
     obtain ⟨y130, hy130⟩ : ∃ y_ : List Int, y_ = (x6_1.set (x8_1 : Int).toNat ((IntKind.u64.wrap (Int.tdiv (Go.bits .or .u64 (IntKind.u64.wrap (x7_1 * 4294967296)) (IntKind.u64.wrap (rd l0 x8_1))) (IntKind.u64.wrap (a1)))) % 4294967296)) := ⟨_, rfl⟩
     replace H : (integer_short.l0 k1 l0 a1 y130 (Int.tmod (Go.bits .or .u64 (IntKind.u64.wrap (x7_1 * 4294967296)) (IntKind.u64.wrap (rd l0 x8_1))) (IntKind.u64.wrap (a1))) (wrap64 (x8_1 - 1))) = some (r1, r2) := by first | (rw [hy130]; exact H) | exact H
     have Ny130 := Aside0.mk hy130
     clear hy130
     have H' := Aside0.mk H
     clear H
     have p129 : 0 ≤ (x8_1 : Int) := of_decide_eq_true (by assumption)
     have q129 : x8_1 < (l0.length : Int) := of_decide_eq_true (by assumption)
     obtain ⟨ad129, e129, hx129_0⟩ := Kd.at_int HR0.out x8_1 p129 q129
     cases e129
     replace hx129_0 := (HB.out.cell (World.block_lt_of_cell? w _ hx129_0)).trans hx129_0
     replace p129 := eq_true p129
     replace q129 := eq_true q129
     have p12 : 0 ≤ (x8_1 : Int) := of_decide_eq_true (by assumption)
     have q12 : (x8_1 : Int) < ((x6_1.length : Int) : Int) := of_decide_eq_true (by assumption)
     obtain ⟨go12, co12, eo12, gb12, gl12, cl12, HG12⟩ := Kd.R_form HO_6.out (by omega)
     (first | cases eo12 | (injection eo12 with ea_ en_ ec_; (first | subst ea_ | (injection ea_ with ea_; subst ea_)); subst ec_; clear en_))
     have GB12 := Aside0.mk gb12
     have GG12 := Aside0.mk HG12
     clear gb12 gl12 HG12
     obtain ⟨hx12_0, hf12_0⟩ := Kd.R_celln 0 HO_6.out (x8_1 : Int) p12 q12
     replace p12 := eq_true p12
     replace q12 := eq_true q12
     have HP13 := Kd.R_putg HO_6.out (x8_1 : Int) ((IntKind.u64.wrap (Int.tdiv (Go.bits .or .u64 (IntKind.u64.wrap (x7_1 * 4294967296)) (IntKind.u64.wrap (rd l0 x8_1))) (IntKind.u64.wrap (a1)))) % 4294967296)
     go_wp2_with (first | ((with_reducible refine gate_store (t := 60) (p := 34) rfl ?_); refine store_event (t := 60) (p := 34) (v := ?vo_w14) (w1 := (wr.setCell ⟨go12, (x8_1 : Int).toNat, none⟩ (.int .u32 ((IntKind.u64.wrap (Int.tdiv (Go.bits .or .u64 (IntKind.u64.wrap (x7_1 * 4294967296)) (IntKind.u64.wrap (rd l0 x8_1))) (IntKind.u64.wrap (a1)))) % 4294967296)))) ?hg ?ho ?hn ?hr ?_; (case ho => rfl); (case hg => rfl); (case hn => rfl); (case hr => first | (go_simp; done) | (go_simp; rfl)); intro w14 hw; have hg : wr.grownBy w14 (some go12) := (by rw [hw]; exact HP13.2); have hp_ : Kd.R (Kd.int .u32) 60 w14 w.heap.size (fun k_ => (w.heap.size ≤ k_)) (.slice (some ⟨go12, 0, none⟩) x6_1.length co12) y130 := (by rw [hw, Ny130.out]; exact HP13.1); clear HP13; replace HO_6 := Aside0.mk (hp_); replace HB := Aside0.mk ((by rw [hw]; exact below_set (HB.out) GB12.out : Below w.heap.size w w14)); clear hg hw hp_))
     go_roundg k1
     case measure => have := HK1.out; omega
     case rel => exact ⟨(y130), (Int.tmod (Go.bits .or .u64 (IntKind.u64.wrap (x7_1 * 4294967296)) (IntKind.u64.wrap (rd l0 x8_1))) (IntKind.u64.wrap (a1))), (wrap64 (x8_1 - 1)), (by first | rfl | (simp; done) | (simp [*]; done) | (simp <;> omega)), (by first | rfl | (simp; done) | (simp [*]; done) | (simp <;> omega)), H', ⟨by have := HK1.out; omega⟩, ⟨Kd.R_up HO_6.out⟩, ⟨below_up HB.out⟩⟩
    ·
     rw [if_neg c7] at H
     have c7b0 := decide_eq_false c7
     clear c7
     replace H := Option.bind_eq_some_iff.mp H
     obtain ⟨t131, A150, H⟩ := H
     try dsimp only at H
     have A15 := Aside0.mk A150
     clear A150
     simp only [Option.some.injEq, Prod.mk.injEq] at H
     obtain ⟨rfl, rfl⟩ := H
     obtain ⟨Ao16, co16, eo16⟩ := Kd.R_slice HO_6.out
     subst eo16
     go_wp2_with (first | ((with_reducible refine gate_callee (f := 67) rfl ?_); refine gl_ (some 40) Tryd.func67 #[.slice Ao16 x6_1.length co16] ?_; (with_reducible refine (integer_trim.calls k1 (fun k_ => some k_ = (.slice Ao16 x6_1.length co16 : Value).ownBlock) _ _ x6_1 t131 _ ?side1 A15.out).mono ?_); (case side1 => exact Kd.R_V (Kd.R_tight rfl (HO_6.out))); rintro e w17 ⟨v132, rfl, ho0, hb⟩; refine ⟨_, rfl, ?_⟩; have n1_ := Aside0.mk (Kd.V_lower (Kd.V_mono (ok' := fun k_ => (w.heap.size ≤ k_)) ho0 (fun k_ hk_ => Or.elim hk_ (fun hs_ => ((HO_6.out).1 k_ hs_.symm)) (fun hn_ => (Nat.le_trans (below_size (below_up HB.out)) hn_)))) (below_size (below_up HB.out))); have n2_ := Aside0.mk (below_step (below_up HB.out) hb); (try clear HO_6); clear HB; have HO133 := n1_; have HB := n2_; clear n1_ n2_; (try clear hb); (try clear hb2); (try clear hk); (try clear hi); (try clear ho0)))
     go_ret2
     exact ⟨_, by first | rfl | (simp [errW_none, errW_some] <;> rfl) | (simp [*, errW_none, errW_some] <;> rfl), Kd.V_up HO133.out, below_up HB.out⟩
 ·
  rw [if_neg c3] at H
  exact absurd H (by simp)
def strconv_Itoa_47.f (a0 : Int) : Option ByteArray := if -9223372036854775808 ≤ a0 ∧ a0 ≤ 9223372036854775807 then some ⟨(Lib.itoa a0).toArray⟩ else none
theorem strconv_Itoa_47.calls (a0 : Int) (r : ByteArray) (w : World) (hG : G w) (h : strconv_Itoa_47.f a0 = some r) :
  Calls Tryd.prog 47 #[.int .i64 a0] w fun e w' => e = .returned (.string r) ∧ Below w.heap.size w w' := by
 unfold strconv_Itoa_47.f at h
 split at h
 ·
  rename_i hb
  simp only [Option.some.injEq] at h
  subst h
  refine (Tryd.strconv_Itoa a0 hb.1 hb.2 w hG).mono ?_
  rintro e w' ⟨rfl, k, os, rfl⟩
  exact ⟨rfl, below_grow_ w k os⟩
 ·
  cases h
def strings_Repeat.f (a0 : ByteArray) (a1 : Int) : Option ByteArray := if 0 ≤ a1 ∧ a1 ≤ 9223372036854775807 ∧ a0.size * a1.toNat ≤ 140737488355328 then some ⟨(Lib.repeatL a0.data.toList a1.toNat).toArray⟩ else none
theorem strings_Repeat.calls (a0 : ByteArray) (a1 : Int) (r : ByteArray) (w : World) (h : strings_Repeat.f a0 a1 = some r) :
  Calls Tryd.prog 48 #[.string a0, .int .i64 a1] w fun e w' => e = .returned (.string r) ∧ Below w.heap.size w w' := by
 unfold strings_Repeat.f at h
 split at h
 ·
  rename_i hb
  simp only [Option.some.injEq] at h
  subst h
  have := Tryd.strings_Repeat a0 a1.toNat w (by omega) hb.2.2
  rw [show ((a1.toNat : Nat) : Int) = a1 by omega] at this
  exact this
 ·
  cases h
def slices_Reverse_string_string.l0 : Nat → List ByteArray → Int → Int → Option (List ByteArray)
 | 0, _, _, _ => none
 | k + 1, x0, x2, x3 => if x2 < x3 then (if 0 ≤ x3 then (if x3 < (x0.length : Int) then (if 0 ≤ x2 then (if x2 < (x0.length : Int) then (slices_Reverse_string_string.l0 k ((x0.set (x2 : Int).toNat (rdOf ByteArray.empty x0 x3)).set (x3 : Int).toNat (rdOf ByteArray.empty x0 x2)) (wrap64 (x2 + 1)) (wrap64 (x3 - 1))) else (none)) else (none)) else (none)) else (none)) else (some x0)
def slices_Reverse_string_string.f (k : Nat) (l0 : List ByteArray) : Option (List ByteArray) := slices_Reverse_string_string.l0 k l0 0 (wrap64 ((l0.length : Int) - 1))
theorem slices_Reverse_string_string.mono_l : ∀ k, (∀ y0 y1 y2, LeO (slices_Reverse_string_string.l0 k y0 y1 y2) (slices_Reverse_string_string.l0 (k + 1) y0 y1 y2))
 | 0 => fun _ _ _ r h => by simp [slices_Reverse_string_string.l0] at h
 | k + 1 => by
  have ih0 := slices_Reverse_string_string.mono_l k
  ·
   intro y0 y1 y2
   unfold slices_Reverse_string_string.l0
   repeat' with_reducible first | exact ih0 _ _ _ | exact LeO.refl _ | exact LeO.none _ | refine LeO.ite ?_ ?_ | refine LeO.bind ?_ (fun _ => ?_)
theorem slices_Reverse_string_string.mono : ∀ a0 k, LeO (slices_Reverse_string_string.f k a0) (slices_Reverse_string_string.f (k + 1) a0) := by
 intro a0 k
 have ih0 := slices_Reverse_string_string.mono_l k
 unfold slices_Reverse_string_string.f
 repeat' with_reducible first | exact ih0 _ _ _ | exact LeO.refl _ | exact LeO.none _ | refine LeO.ite ?_ ?_ | refine LeO.bind ?_ (fun _ => ?_)
def slices_Reverse_string_string.T3 : Bool × List (List Nat × List Nat) := (true, [([], []), ([], []), ([], []), ([], []), ([], []), ([], []), ([4, 5], [4, 5]), ([6], [6]), ([], []), ([], []), ([8, 9], [8, 9]), ([10], [10]), ([0, 1, 0, 1, 4, 5, 6, 7, 11], [0, 1]), ([12, 7, 0, 1, 4, 5, 6, 7, 11], [7, 12]), ([2, 3, 0, 1, 2, 3, 4, 5, 6, 7, 8, 9, 10, 11, 12, 13], [2, 3]), ([14, 11, 13, 0, 1, 2, 3, 4, 5, 6, 7, 8, 9, 10, 11, 12, 13], [11, 14])])
def slices_Reverse_string_string.B3 : List Nat := [0, 0, 0, 0, 0, 0, 48, 112, 0, 0, 768, 1792, 4083, 8179, 16383, 32767]
theorem slices_Reverse_string_string.tab3 : rtab .any (opsOf Tryd.f49 3) = slices_Reverse_string_string.T3 := by kernel_rfl
theorem slices_Reverse_string_string.bits3 : waitsOk slices_Reverse_string_string.T3.2 slices_Reverse_string_string.B3 = true := by kernel_rfl
set_option maxHeartbeats 8000000 in
set_option maxRecDepth 100000 in
theorem slices_Reverse_string_string.calls (k : Nat) (P0_ : Nat → Prop) (u9000_ : Value) (l0 : List ByteArray) (r : List ByteArray) (w0 w : World) (hB : Below w0.heap.size w0 w) (ho0 : Kd.R Kd.string 9 w w0.heap.size P0_ u9000_ l0) (h : slices_Reverse_string_string.f k l0 = some r) :
  Calls Tryd.prog 49 #[u9000_] w fun e w' => e = .returned (.tuple #[]) ∧ Kd.R Kd.string 9 w' w0.heap.size (fun k_ => (P0_ k_ ∨ w.heap.size ≤ k_)) u9000_ r ∧ Below w0.heap.size w0 w' ∧ Kept w w' (fun k_ => P0_ k_) := by
 have HO0 := Aside0.mk (show Kd.R Kd.string 9 w w0.heap.size (fun k_ => (P0_ k_ ∨ w.heap.size ≤ k_)) u9000_ l0 from Kd.R_mono ho0 (fun k_ hk => (.inl hk)))
 have HK := Aside0.mk (Kept.refl w (fun k_ => P0_ k_))
 have HW0 := Aside0.mk hB.size
 have HB := Aside0.mk hB
 clear hB
 have H := h
 unfold slices_Reverse_string_string.f at H
 clear h
 have H' := Aside0.mk H
 clear H
 obtain ⟨Ao2, co2, eo2⟩ := Kd.R_slice HO0.out
 subst eo2
 go_enter Tryd.func49, Tryd.ntmps49
 go_wp2
 go_loopg [2, 3] k (fun kq v2 v3 w' => ∃ (x0_1 : List ByteArray) (x2_1 : Int) (x3_1 : Int), v2 = .int .i64 x2_1 ∧ v3 = .int .i64 x3_1 ∧ Aside0 (slices_Reverse_string_string.l0 kq x0_1 x2_1 x3_1 = some r) ∧ Aside0 (kq ≤ k) ∧ Aside0 (Kd.R Kd.string 9 w' w0.heap.size (fun k_ => (P0_ k_ ∨ w.heap.size ≤ k_)) (.slice Ao2 l0.length co2) x0_1) ∧ Aside0 (Kept w w' (fun k_ => P0_ k_)) ∧ Aside0 (Below w0.heap.size w0 w'))
 case atStart => exact ⟨(l0), (0), (wrap64 ((l0.length : Int) - 1)), (by first | rfl | (simp; done) | (simp [*]; done) | (simp <;> omega)), (by first | rfl | (simp; done) | (simp [*]; done) | (simp <;> omega)), H', ⟨Nat.le_refl _⟩, ⟨Kd.R_up HO0.out⟩, ⟨by repeat (first | (with_reducible first | exact HK.out | apply Kept.alloc | apply Kept.drewN | apply Kept.drew) | exact HK.out)⟩, ⟨below_up HB.out⟩⟩
 case round =>
  clear H'
  obtain ⟨x0_1, x2_1, x3_1, rfl, rfl, HA, HK1, HO_0, HK, HB⟩ := hrel
  have hl0_1 := (Kd.R_reads' HO_0.out).1
  rw [hl0_1] at HO_0
  (try simp only [hl0_1])
  cases gk with
  | zero => exact absurd HA.out (by simp [slices_Reverse_string_string.l0])
  | succ k1 =>
   have H := HA.out
   clear HA
   simp only [slices_Reverse_string_string.l0] at H
   by_cases c3 : x2_1 < x3_1
   ·
    rw [if_pos c3] at H
    have c3b0 := decide_eq_true c3
    clear c3
    obtain ⟨c4, H⟩ := ite_some H
    have c4b0 := decide_eq_true c4
    clear c4
    obtain ⟨c5, H⟩ := ite_some H
    have c5b0 := decide_eq_true c5
    (try simp only [hl0_1] at c5b0)
    clear c5
    obtain ⟨c6, H⟩ := ite_some H
    have c6b0 := decide_eq_true c6
    clear c6
    obtain ⟨c7, H⟩ := ite_some H
    have c7b0 := decide_eq_true c7
    (try simp only [hl0_1] at c7b0)
    clear c7
    obtain ⟨y158, hy158⟩ : ∃ y_ : List ByteArray, y_ = (x0_1.set (x2_1 : Int).toNat (rdOf ByteArray.empty x0_1 x3_1)) := ⟨_, rfl⟩
    replace H : (slices_Reverse_string_string.l0 k1 (y158.set (x3_1 : Int).toNat (rdOf ByteArray.empty x0_1 x2_1)) (wrap64 (x2_1 + 1)) (wrap64 (x3_1 - 1))) = some r := by first | (rw [hy158]; exact H) | exact H
    have Ny158 := Aside0.mk hy158
    clear hy158
    obtain ⟨y159, hy159⟩ : ∃ y_ : List ByteArray, y_ = (y158.set (x3_1 : Int).toNat (rdOf ByteArray.empty x0_1 x2_1)) := ⟨_, rfl⟩
    replace H : (slices_Reverse_string_string.l0 k1 y159 (wrap64 (x2_1 + 1)) (wrap64 (x3_1 - 1))) = some r := by first | (rw [hy159]; exact H) | exact H
    have Ny159 := Aside0.mk hy159
    clear hy159
    have H' := Aside0.mk H
    clear H
    try go_wp2
    replace HO_0 := Aside0.mk (Kd.R_drew HO_0.out)
    replace HK := Aside0.mk (Kept.drew HK.out)
    replace HB := Aside0.mk (below_drew1 HB.out)
    have p156 : 0 ≤ (x3_1 : Int) := of_decide_eq_true (by assumption)
    have q156 : x3_1 < (x0_1.length : Int) := of_decide_eq_true (by assumption)
    obtain ⟨ad156, e156, hx156_0⟩ := Kd.at_string (Kd.R_reads' HO_0.out).2.2 x3_1 p156 q156
    cases e156
    replace p156 := eq_true p156
    replace q156 := eq_true q156
    have p157 : 0 ≤ (x2_1 : Int) := of_decide_eq_true (by assumption)
    have q157 : x2_1 < (x0_1.length : Int) := of_decide_eq_true (by assumption)
    obtain ⟨ad157, e157, hx157_0⟩ := Kd.at_string (Kd.R_reads' HO_0.out).2.2 x2_1 p157 q157
    obtain rfl : ad156 = ad157 := (by injection e157)
    replace p157 := eq_true p157
    replace q157 := eq_true q157
    have p8 : 0 ≤ (x2_1 : Int) := of_decide_eq_true (by assumption)
    have q8 : (x2_1 : Int) < ((x0_1.length : Int) : Int) := of_decide_eq_true (by assumption)
    obtain ⟨go8, co8, eo8, gb8, gl8, cl8, HG8⟩ := Kd.R_form HO_0.out (by omega)
    (first | cases eo8 | (injection eo8 with ea_ en_ ec_; (first | subst ea_ | (injection ea_ with ea_; subst ea_)); subst ec_; clear en_))
    have GB8 := Aside0.mk gb8
    have GG8 := Aside0.mk HG8
    clear gb8 gl8 HG8
    have HMgo8 := Aside0.mk (show (P0_ go8 ∨ w.heap.size ≤ go8) from (HO_0.out.1 _ rfl))
    (first | simp only [add_plain] at hx156_0 | skip)
    (first | simp only [add_plain] at hx157_0 | skip)
    obtain ⟨hx8_0, hf8_0⟩ := Kd.R_celln (⟨#[]⟩ : ByteArray) HO_0.out (x2_1 : Int) p8 q8
    replace p8 := eq_true p8
    replace q8 := eq_true q8
    have HP11 := Kd.R_putn HO_0.out (x2_1 : Int) (rdOf ByteArray.empty x0_1 x3_1)
    rw [← Ny158.out] at HP11
    have HQ11 := Aside0.mk HP11
    clear HP11
    have p9 : 0 ≤ (x3_1 : Int) := of_decide_eq_true (by assumption)
    have q9 : (x3_1 : Int) < ((x0_1.length : Int) : Int) := of_decide_eq_true (by assumption)
    obtain ⟨hx9_0, hf9_0⟩ := Kd.R_celln (⟨#[]⟩ : ByteArray) HQ11.out (x3_1 : Int) p9 q9
    replace p9 := eq_true p9
    replace q9 := eq_true q9
    have HP12 := Kd.R_putn HQ11.out (x3_1 : Int) (rdOf ByteArray.empty x0_1 x2_1)
    rw [← Ny159.out] at HP12
    have HQ12 := Aside0.mk HP12
    clear HP12
    refine start_ (n := 16) (S := fun w' => w'.cell? ⟨go8, (x3_1).toNat, none⟩ = some (.string (rdOf ByteArray.empty x0_1 x3_1)) ∧ w'.cell? ⟨go8, (x2_1).toNat, none⟩ = some (.string (rdOf ByteArray.empty x0_1 x2_1))) (ds := [13, 15]) #[false, false, false, false, false, false, false, false, false, false, false, false, false, false, false, false] (by kernel_rfl) rfl rfl ⟨hx156_0, hx157_0⟩ (fun hHeld => ?_); refine with_tabW slices_Reverse_string_string.tab3 slices_Reverse_string_string.bits3 (fun HT_ HW_ => ?_)
    generalize wr.drew = w10 at HO_0 HK HB GG8 HQ11 HQ12 hf8_0 hf9_0 hx156_0 hx157_0 hx8_0 hx9_0 hHeld ⊢
    refine pu_ 0 (some 14) (bs 1 15) HT_.out ?_
    refine pu_ 1 (some 15) (bs 2 14) HT_.out ?_
    refine pu_ 2 (some 16) (bs 3 13) HT_.out ?_
    refine pu_ 3 (some 17) (bs 4 12) HT_.out ?_
    refine pu_ 4 (some 18) (bs 5 11) HT_.out ?_
    refine pu_ 5 (some 19) (bs 6 10) HT_.out ?_
    refine pu_ 6 (some 20) (bs 7 9) HT_.out ?_
    refine pu_ 8 (some 22) #[true, true, true, true, true, true, true, false, true, false, false, false, false, false, false, false] HT_.out ?_
    refine pu_ 9 (some 23) #[true, true, true, true, true, true, true, false, true, true, false, false, false, false, false, false] HT_.out ?_
    refine pu_ 10 (some 24) #[true, true, true, true, true, true, true, false, true, true, true, false, false, false, false, false] HT_.out ?_
    refine take_ (i := 7) (N := some 21) (v := ?_) (a' := ?_) #[true, true, true, true, true, true, true, true, true, true, true, false, false, false, false, false] rfl rfl (take_ofW HT_.out HW_.out (by kernel_rfl)) (fun _ _ _ h => h) (Or.inl ⟨by rfl, ?_⟩) hHeld ?_ ?_
    rotate_left
    ·
     rintro w' ⟨s0, s1⟩
     go_simp
     with_reducible rfl
    rotate_left
    ·
     simp only [Act.put, List.setIfInBounds_toArray, List.set_cons_zero, List.set_cons_succ, i64_w, i32_w]
     rfl
    refine take_ (i := 11) (N := some 25) (v := ?_) (a' := ?_) #[true, true, true, true, true, true, true, true, true, true, true, true, false, false, false, false] rfl rfl (take_ofW HT_.out HW_.out (by kernel_rfl)) (fun _ _ _ h => h) (Or.inl ⟨by rfl, ?_⟩) hHeld ?_ ?_
    rotate_left
    ·
     rintro w' ⟨s0, s1⟩
     go_simp
     with_reducible rfl
    rotate_left
    ·
     simp only [Act.put, List.setIfInBounds_toArray, List.set_cons_zero, List.set_cons_succ, i64_w, i32_w]
     rfl
    refine pu_ 12 (some 26) (bs 13 3) HT_.out ?_
    refine last_ (i := 13) (N := none) #[true, true, true, true, true, true, true, true, true, true, true, true, true, true, false, false] rfl rfl (one_of HT_.out (by kernel_rfl)) (by decide) (fun K hK => ?_)
    refine skip_ (w1 := ?_) (by rfl) rfl ?_ ?_
    rotate_left
    ·
     go_simp
     rfl
    refine hK.out _ _ ?_
    clear hK K
    refine pu_ 14 (some 27) (bs 15 1) HT_.out ?_
    refine last_ (i := 15) (N := none) #[true, true, true, true, true, true, true, true, true, true, true, true, true, true, true, true] rfl rfl (one_of HT_.out (by kernel_rfl)) (by decide) (fun K hK => ?_)
    refine skip_ (w1 := ?_) (by rfl) rfl ?_ ?_
    rotate_left
    ·
     go_simp
     rfl
    refine hK.out _ _ ?_
    clear hK K
    refine done_ (done_of HT_.out (by kernel_rfl)) ?_
    try go_wp2
    (try simp only [← hl0_1])
    go_roundg k1
    case measure => have := HK1.out; omega
    case rel => exact ⟨(y159), (wrap64 (x2_1 + 1)), (wrap64 (x3_1 - 1)), (by first | rfl | (simp; done) | (simp [*]; done) | (simp <;> omega)), (by first | rfl | (simp; done) | (simp [*]; done) | (simp <;> omega)), H', ⟨by have := HK1.out; omega⟩, ⟨by (try simp only [hl0_1]); (with_reducible repeat (first | apply Kd.R_alloc | apply Kd.R_drewN | apply Kd.R_drew)); exact HQ12.out⟩, ⟨by repeat (first | (with_reducible first | exact HK.out | apply Kept.alloc | apply Kept.drewN | apply Kept.drew | refine Kept.setCell ?_ HMgo8.out _ | refine Kept.setCell ?_ HMgo8.out _) | exact HK.out)⟩, ⟨by with_reducible repeat first | exact HB.out | apply below_alloc | apply pw_below_drewN | apply below_drew1 | refine below_set ?_ GB8.out | refine below_set ?_ GB8.out⟩⟩
   ·
    rw [if_neg c3] at H
    have c3b0 := decide_eq_false c3
    clear c3
    obtain rfl := Option.some.inj H
    go_wp2
    first | go_end0 | ((try simp only [Exit.inBlock, Exit.then]); refine bodyPost_ret (results_none rfl _ _ _) rfl ?_)
    exact ⟨by first | rfl | (simp [errW_none, errW_some] <;> rfl) | (simp [*, errW_none, errW_some] <;> rfl), (by first | exact (Kd.R_up HO_0.out) | (simp only [hl0_1]; exact (Kd.R_up HO_0.out))), by repeat (first | (with_reducible first | exact HB.out | apply below_alloc | apply pw_below_drewN | apply below_drew1) | exact HB.out), by repeat (first | (with_reducible first | exact HK.out | apply Kept.alloc | apply Kept.drewN | apply Kept.drew) | exact HK.out)⟩
def strings_Join.f (l0 : List ByteArray) (a1 : ByteArray) : Option ByteArray := if l0.length ≤ 140737488355328 ∧ (Lib.join (l0.map (·.data.toList)) a1.data.toList).length ≤ 140737488355328 then some ⟨(Lib.join (l0.map (·.data.toList)) a1.data.toList).toArray⟩ else none
theorem strings_Join.calls (A0 : Option Addr) (c0 : Nat) (l0 : List ByteArray) (a1 : ByteArray) (r : ByteArray) (w : World) (hr0 : Kd.C Kd.string w A0 l0.length l0) (hc0 : l0.length ≤ c0) (h : strings_Join.f l0 a1 = some r) :
  Calls Tryd.prog 50 #[.slice A0 l0.length c0, .string a1] w fun e w' => e = .returned (.string r) ∧ Below w.heap.size w w' := by
 unfold strings_Join.f at h
 split at h
 ·
  rename_i hb
  simp only [Option.some.injEq] at h
  subst h
  rcases Nat.eq_zero_or_pos l0.length with h0 | h0
  ·
   obtain rfl : l0 = [] := List.length_eq_zero_iff.1 h0
   refine (Tryd.strings_Join_none A0 c0 a1 w).mono ?_
   rintro e w' ⟨rfl, rfl⟩
   exact ⟨rfl, Below.refl _ _⟩
  ·
   obtain ⟨ad, rfl, hc⟩ := (Kd.reads_of_C (d := ByteArray.empty) hr0).2.2 h0
   obtain ⟨bk, o, pt⟩ := ad
   cases pt with
   | some q =>
    exfalso
    have := hc 0 h0
    simp only [Addr.add, World.cell?] at this
    simp at this
    split at this <;> simp at this
   | none =>
    refine Tryd.strings_Join bk o c0 l0 a1 w (fun j x hx => ?_) ?_ hb.1 hc0 hb.2
    ·
     have hj : j < l0.length := (List.getElem?_eq_some_iff.1 hx).1
     have := hc j hj
     rw [List.getD_eq_getElem?_getD, hx, Addr.add_lit] at this
     simpa using this
    ·
     exact World.block_lt_of_cell? w _ (hc 0 h0)
 ·
  cases h
def integer_Int_Text.l0 : Nat → List ByteArray → List Int → Bool → List Int → Option (ByteArray)
 | 0, _, _, _, _ => none
 | k + 1, x3, x4, x161000, x161001 => if (x4.length : Int) > 0 then ((integer_short.f k x4 1000000000).bind fun bt161 => ((strconv_Itoa_47.f (wrap64 (bt161.2))).bind fun t165 => (if (bt161.1.length : Int) > 0 then ((strings_Repeat.f (⟨#[48]⟩ : ByteArray) (wrap64 (9 - (t165.size : Int)))).bind fun t166 => (if t166.size + t165.size ≤ 9223372036854775807 then (if x3.length < 8796093022208 then (integer_Int_Text.l0 k (x3 ++ [t166 ++ t165]) bt161.1 x161000 x161001) else (none)) else (none))) else (if x3.length < 8796093022208 then (integer_Int_Text.l0 k (x3 ++ [t165]) bt161.1 x161000 x161001) else (none))))) else ((slices_Reverse_string_string.f k x3).bind fun t173 => ((strings_Join.f t173 (⟨#[]⟩ : ByteArray)).bind fun t174 => (if x161000 = true then (if 1 + t174.size ≤ 9223372036854775807 then (some ((⟨#[45]⟩ : ByteArray) ++ t174)) else (none)) else (some t174))))
def integer_Int_Text.f (k : Nat) (a0_0 : Bool) (l0_1 : List Int) : Option (ByteArray) := if (l0_1.length : Int) = 0 then (some (⟨#[48]⟩ : ByteArray)) else (integer_Int_Text.l0 k ([] : List ByteArray) l0_1 a0_0 l0_1)
theorem integer_Int_Text.mono_l : ∀ k, (∀ y0 y1 y2 y3, LeO (integer_Int_Text.l0 k y0 y1 y2 y3) (integer_Int_Text.l0 (k + 1) y0 y1 y2 y3))
 | 0 => fun _ _ _ _ r h => by simp [integer_Int_Text.l0] at h
 | k + 1 => by
  have ih0 := integer_Int_Text.mono_l k
  ·
   intro y0 y1 y2 y3
   unfold integer_Int_Text.l0
   repeat' with_reducible first | exact ih0 _ _ _ _ | exact integer_short.mono _ _ _ | exact slices_Reverse_string_string.mono _ _ | exact LeO.refl _ | exact LeO.none _ | refine LeO.ite ?_ ?_ | refine LeO.bind ?_ (fun _ => ?_)
theorem integer_Int_Text.mono : ∀ a0 a1 k, LeO (integer_Int_Text.f k a0 a1) (integer_Int_Text.f (k + 1) a0 a1) := by
 intro a0 a1 k
 have ih0 := integer_Int_Text.mono_l k
 unfold integer_Int_Text.f
 repeat' with_reducible first | exact ih0 _ _ _ _ | exact integer_short.mono _ _ _ | exact slices_Reverse_string_string.mono _ _ | exact LeO.refl _ | exact LeO.none _ | refine LeO.ite ?_ ?_ | refine LeO.bind ?_ (fun _ => ?_)
set_option maxHeartbeats 8000000 in
set_option maxRecDepth 100000 in
theorem integer_Int_Text.calls (k : Nat) (a0_0 : Bool) (P0_1_ : Nat → Prop) (A0_1 : Option Addr) (c0_1 : Nat) (l0_1 : List Int) (r : ByteArray) (w : World) (hs0_1 : Kd.V (Kd.int .u32) 60 w w.heap.size (fun k_ => P0_1_ k_) (.slice A0_1 l0_1.length c0_1) l0_1) (hG : G w) (h : integer_Int_Text.f k a0_0 l0_1 = some r) :
  Calls Tryd.prog 17 #[.agg #[.bool a0_0, .slice A0_1 l0_1.length c0_1]] w fun e w' => e = .returned (.string r) ∧ Below w.heap.size w w' := by
 have hu25 := Tryd.underlying25
 have HO0_1 := Aside0.mk (show Kd.V (Kd.int .u32) 60 w w.heap.size (fun k_ => (P0_1_ k_ ∨ w.heap.size ≤ k_)) (.slice A0_1 l0_1.length c0_1) l0_1 from Kd.V_mono hs0_1 (fun k_ hk => .inl hk))
 have HB := Aside0.mk (Below.refl w.heap.size w)
 have HG := Aside0.mk hG
 clear hG
 have H := h
 unfold integer_Int_Text.f at H
 clear h
 by_cases c2 : (l0_1.length : Int) = 0
 ·
  rw [if_pos c2] at H
  have c2b0 : ((l0_1.length : Int) == 0) = true := beq_iff_eq.mpr c2
  have c2b1 : ((l0_1.length : Int) != 0) = false := bne_eq_false_iff_eq.mpr c2
  clear c2
  obtain rfl := Option.some.inj H
  go_enter Tryd.func17, Tryd.ntmps17
  go_wp2_with (first | ((with_reducible refine gate_dst (N := 1) rfl ?_); refine box_event ?hg (N := 1) ?hd (cs := #[.bool a0_0, .slice A0_1 l0_1.length c0_1]) (t := 25) ?hr ?_; (case hd => rfl); (case hg => rfl); (case hr => first | (go_simp; done) | (go_simp; rfl)); intro gb160 hg w3 hbox hb; replace HO0_1 := Aside0.mk (Kd.V_below (Kd.V_elderB (Kd.V_up HO0_1.out) gb160 (Nat.le_of_eq hg.symm)) hb); have BK160 := Aside0.mk (hbox); have GE160 := Aside0.mk ((size_up hg HB.out : w.heap.size ≤ gb160)); replace HB := Aside0.mk (below_step (below_up HB.out) hb); clear hb hbox hg; have hcz4_0 : w3.cell? ⟨gb160, 0, none⟩ = some (.bool a0_0) := (blk_cell BK160.out 0).trans rfl; have hcz4_1 : w3.cell? ⟨gb160, 1, none⟩ = some (.slice A0_1 l0_1.length c0_1) := (blk_cell BK160.out 1).trans rfl; have hfz4_0 := blk_frozen BK160.out 0; have hfz4_1 := blk_frozen BK160.out 1))
  go_ret
  exact ⟨by first | rfl | (simp [errW_none, errW_some] <;> rfl) | (simp [*, errW_none, errW_some] <;> rfl), by with_reducible repeat first | exact HB.out | apply below_alloc | apply pw_below_drewN | apply below_drew1 | refine below_set ?_ GE160.out⟩
 ·
  rw [if_neg c2] at H
  have c2b0 : ((l0_1.length : Int) == 0) = false := beq_eq_false_iff_ne.mpr c2
  have c2b1 : ((l0_1.length : Int) != 0) = true := bne_iff_ne.mpr c2
  have c2b2 : ¬ (l0_1 = []) := fun h_ => c2 (by rw [h_]; rfl)
  have H' := Aside0.mk H
  clear H
  go_enter Tryd.func17, Tryd.ntmps17
  go_wp2_with (first | ((with_reducible refine gate_dst (N := 1) rfl ?_); refine box_event ?hg (N := 1) ?hd (cs := #[.bool a0_0, .slice A0_1 l0_1.length c0_1]) (t := 25) ?hr ?_; (case hd => rfl); (case hg => rfl); (case hr => first | (go_simp; done) | (go_simp; rfl)); intro gb160 hg w5 hbox hb; replace HO0_1 := Aside0.mk (Kd.V_below (Kd.V_elderB (Kd.V_up HO0_1.out) gb160 (Nat.le_of_eq hg.symm)) hb); have BK160 := Aside0.mk (hbox); have GE160 := Aside0.mk ((size_up hg HB.out : w.heap.size ≤ gb160)); replace HB := Aside0.mk (below_step (below_up HB.out) hb); clear hb hbox hg; have hcz6_0 : w5.cell? ⟨gb160, 0, none⟩ = some (.bool a0_0) := (blk_cell BK160.out 0).trans rfl; have hcz6_1 : w5.cell? ⟨gb160, 1, none⟩ = some (.slice A0_1 l0_1.length c0_1) := (blk_cell BK160.out 1).trans rfl; have hfz6_0 := blk_frozen BK160.out 0; have hfz6_1 := blk_frozen BK160.out 1))
  go_loopg [3, 4] k (fun kq v3 v4 w' => ∃ (x3_1 : List ByteArray) (x4_1 : List Int), Aside0 (integer_Int_Text.l0 kq x3_1 x4_1 a0_0 l0_1 = some r) ∧ Aside0 (kq ≤ k) ∧ Aside0 (Kd.R Kd.string 9 w' w.heap.size (fun k_ => (w.heap.size ≤ k_)) v3 x3_1) ∧ Aside0 (Kd.V (Kd.int .u32) 60 w' w.heap.size (fun k_ => (P0_1_ k_ ∨ w.heap.size ≤ k_) ∧ some k_ ≠ (v3 : Value).ownBlock ∧ k_ ≠ gb160) v4 x4_1) ∧ Aside0 (Kd.V (Kd.int .u32) 60 w' w.heap.size (fun k_ => (P0_1_ k_ ∨ w.heap.size ≤ k_) ∧ some k_ ≠ (v3 : Value).ownBlock ∧ k_ ≠ gb160) (.slice A0_1 l0_1.length c0_1) l0_1) ∧ Aside0 (w'.heap[gb160]? = some (.cells #[.bool a0_0, (.slice A0_1 l0_1.length c0_1)] 25 (0, 0))) ∧ Aside0 (Below w.heap.size w w'))
  case atStart => exact ⟨(([] : List ByteArray)), (l0_1), H', ⟨Nat.le_refl _⟩, ⟨by first | exact Kd.R_nil _ _ _ _ _ | exact Kd.N_nil _ _ _ _ _ | exact Kd.V_nil _ _ _ _ _ | exact Kd.Q_nil _ _ _ _ _ | exact Kd.S_nil _ _ _ _ _⟩, ⟨Kd.V_up (Kd.V_mono HO0_1.out (fun _ hk => ⟨hk.1, ⟨(by simp [Value.ownBlock]), hk.2⟩⟩))⟩, ⟨Kd.V_up (Kd.V_mono HO0_1.out (fun _ hk => ⟨hk.1, ⟨(by simp [Value.ownBlock]), hk.2⟩⟩))⟩, ⟨by (with_reducible repeat (first | refine blk_drewN ?_ _ | refine blk_drew ?_ | refine blk_alloc ?_ _)); exact BK160.out⟩, ⟨by with_reducible repeat first | exact HB.out | apply below_alloc | apply pw_below_drewN | apply below_drew1 | refine below_set ?_ GE160.out⟩⟩
  case round =>
   clear H'
   obtain ⟨x3_1, x4_1, HA, HK1, HO_3, HO_4, HO_161001, BK160, HB⟩ := hrel
   cases gk with
   | zero => exact absurd HA.out (by simp [integer_Int_Text.l0])
   | succ k1 =>
    have H := HA.out
    clear HA
    simp only [integer_Int_Text.l0] at H
    by_cases c7 : (x4_1.length : Int) > 0
    ·
     rw [if_pos c7] at H
     have c7b0 := decide_eq_true c7
     have c7b1 : decide (0 < x4_1.length) = true := decide_eq_true (by omega)
     clear c7
     replace H := Option.bind_eq_some_iff.mp H
     obtain ⟨⟨t161, t164⟩, A80, H⟩ := H
     try dsimp only at H
     have A8 := Aside0.mk A80
     clear A80
     replace H := Option.bind_eq_some_iff.mp H
     obtain ⟨t165, A90, H⟩ := H
     try dsimp only at H
     have A9 := Aside0.mk A90
     clear A90
     by_cases c10 : (t161.length : Int) > 0
     ·
      rw [if_pos c10] at H
      have c10b0 := decide_eq_true c10
      have c10b1 : decide (0 < t161.length) = true := decide_eq_true (by omega)
      clear c10
      replace H := Option.bind_eq_some_iff.mp H
      obtain ⟨t166, A110, H⟩ := H
      try dsimp only at H
      have A11 := Aside0.mk A110
      clear A110
      obtain ⟨c12, H⟩ := ite_some H
      have c12b0 := eq_true c12
      have c12b1 := decide_eq_true c12
      try have c12b2 : (9223372036854775807 < t166.size + t165.size) = False := eq_false (Nat.not_lt.2 c12)
      obtain ⟨c13, H⟩ := ite_some H
      have LMc13 := Aside0.mk c13
      clear c13
      obtain ⟨y167, hy167⟩ : ∃ y_ : List ByteArray, y_ = (x3_1 ++ [t166 ++ t165]) := ⟨_, rfl⟩
      replace H : (integer_Int_Text.l0 k1 y167 t161 a0_0 l0_1) = some r := by first | (rw [hy167]; exact H) | exact H
      have Ny167 := Aside0.mk hy167
      clear hy167
      have H' := Aside0.mk H
      clear H
      obtain ⟨Ao14, co14, eo14⟩ := Kd.V_slice HO_4.out
      subst eo14
      go_wp2_with (first | ((with_reducible refine gate_callee (f := 46) rfl ?_); refine gl_ (some 20) Tryd.func46 #[.slice Ao14 x4_1.length co14, .int .u32 1000000000] ?_; (with_reducible refine (integer_short.calls k1 _ _ x4_1 1000000000 t161 t164 _ ?side1 ?side2 A8.out).mono ?_); (case side1 => repeat (first | exact (Kd.V_reads' HO_4.out).2.2 | (with_reducible refine Kd.C_alloc ?_ _) | (with_reducible refine Kd.C_drewN ?_ _) | (with_reducible refine Kd.C_drew ?_))); (case side2 => exact (Kd.V_reads' HO_4.out).2.1); rintro e w15 ⟨v162, rfl, ho0, hb⟩; refine ⟨_, rfl, ?_⟩; replace HO_4 := Aside0.mk (Kd.V_below (Kd.V_up HO_4.out) hb); replace HO_161001 := Aside0.mk (Kd.V_below (Kd.V_up HO_161001.out) hb); have HO163 := Aside0.mk (Kd.V_lower (Kd.V_mono (ok' := fun k_ => (P0_1_ k_ ∨ w.heap.size ≤ k_) ∧ some k_ ≠ (u3 : Value).ownBlock ∧ k_ ≠ gb160) ho0 (fun k_ hk_ => ⟨(.inr (Nat.le_trans (below_size (by with_reducible repeat first | exact HB.out | apply below_alloc | apply pw_below_drewN | apply below_drew1 | refine below_set ?_ GE160.out)) hk_)), (Kd.fresh' (Kd.R_lt (Kd.R_up HO_3.out)) k_ hk_), (Kd.freshB (g := gb160) (o := .cells #[.bool a0_0, .slice A0_1 l0_1.length c0_1] 25 (0, 0)) (blk_up BK160.out) k_ hk_)⟩)) (below_size (by with_reducible repeat first | exact HB.out | apply below_alloc | apply pw_below_drewN | apply below_drew1 | refine below_set ?_ GE160.out))); replace HO_3 := Aside0.mk (Kd.R_below (Kd.R_up HO_3.out) hb); replace BK160 := Aside0.mk (blk_below (blk_up BK160.out) hb); replace HB := Aside0.mk (below_step (by with_reducible repeat first | exact HB.out | apply below_alloc | apply pw_below_drewN | apply below_drew1 | refine below_set ?_ GE160.out) hb); (try clear hb); (try clear hb2); (try clear hk); (try clear hi); (try clear ho0)) | ((with_reducible refine gate_callee (f := 47) rfl ?_); refine goesL_ (some 25) rfl rfl Tryd.func47 (by kernel_rfl) rfl #[.int .i64 (wrap64 (t164))] rfl (by (try simp only [List.map_toArray, List.map_cons, List.map_nil]); first | done | rfl | (simp only [List.length_drop, List.length_take]; rfl) | (rw [show wrap64 (t164) = (t164) from wrap64_of_ _ (by omega) (by omega)]; rfl)) ?_; (with_reducible refine (strconv_Itoa_47.calls (wrap64 (t164)) t165 _ ?side1 A9.out).mono ?_); (case side1 => exact G_below HG.out (by with_reducible repeat first | exact HB.out | apply below_alloc | apply pw_below_drewN | apply below_drew1 | refine below_set ?_ GE160.out)); rintro e w16 ⟨rfl, hb⟩; refine ⟨_, rfl, ?_⟩; replace HO_3 := Aside0.mk (Kd.R_below (Kd.R_up HO_3.out) hb); replace HO_4 := Aside0.mk (Kd.V_below (Kd.V_up HO_4.out) hb); replace HO_161001 := Aside0.mk (Kd.V_below (Kd.V_up HO_161001.out) hb); replace HO163 := Aside0.mk (Kd.V_below (Kd.V_up HO163.out) hb); replace BK160 := Aside0.mk (blk_below (blk_up BK160.out) hb); replace HB := Aside0.mk (below_step (by with_reducible repeat first | exact HB.out | apply below_alloc | apply pw_below_drewN | apply below_drew1 | refine below_set ?_ GE160.out) hb); (try clear hb); (try clear hb2); (try clear hk); (try clear hi); obtain ⟨Ao17, co17, eo17⟩ := Kd.V_slice HO163.out; subst eo17) | ((with_reducible refine gate_callee (f := 48) rfl ?_); refine goesL_ (some 32) rfl rfl Tryd.func48 (by kernel_rfl) rfl #[.string (⟨#[48]⟩ : ByteArray), .int .i64 (wrap64 (9 - (t165.size : Int)))] rfl (by (try simp only [List.map_toArray, List.map_cons, List.map_nil]); first | done | rfl | (simp only [List.length_drop, List.length_take]; rfl) | (rw [show wrap64 (9 - (t165.size : Int)) = (9 - (t165.size : Int)) from wrap64_of_ _ (by omega) (by omega)]; rfl)) ?_; (with_reducible refine (strings_Repeat.calls (⟨#[48]⟩ : ByteArray) (wrap64 (9 - (t165.size : Int))) t166 _ A11.out).mono ?_); rintro e w18 ⟨rfl, hb⟩; refine ⟨_, rfl, ?_⟩; replace HO_3 := Aside0.mk (Kd.R_below (Kd.R_up HO_3.out) hb); replace HO_4 := Aside0.mk (Kd.V_below (Kd.V_up HO_4.out) hb); replace HO_161001 := Aside0.mk (Kd.V_below (Kd.V_up HO_161001.out) hb); replace HO163 := Aside0.mk (Kd.V_below (Kd.V_up HO163.out) hb); replace BK160 := Aside0.mk (blk_below (blk_up BK160.out) hb); replace HB := Aside0.mk (below_step (by with_reducible repeat first | exact HB.out | apply below_alloc | apply pw_below_drewN | apply below_drew1 | refine below_set ?_ GE160.out) hb); (try clear hb); (try clear hb2); (try clear hk); (try clear hi)) | ((with_reducible refine gate_builtin (b := .append) (xs := #[.tmp 35, .tmp 37]) rfl ?_); at_builtin; refine Kd.R_append Kd.string (w0 := w) w.heap.size rfl (.tmp 35) (.tmp 37) 62 9 (.string ⟨#[]⟩) 16 rfl Tryd.underlying62 info9 rfl (by decide) (by omega) u3 x3_1 (t166 ++ t165) [.string (t166 ++ t165)] (fun k_ => (w.heap.size ≤ k_)) (fun _ => False) rfl rfl ?aP (fun _ hk => hk.elim) ?aF ?aO ?aB ?aS ?aL ?_; (case aP => exact rfl); (case aB => exact (by with_reducible repeat first | exact HB.out | apply below_alloc | apply pw_below_drewN | apply below_drew1 | refine below_set ?_ GE160.out)); (case aF => exact (fun k_ hk => (Nat.le_trans (below_size (by with_reducible repeat first | exact HB.out | apply below_alloc | apply pw_below_drewN | apply below_drew1 | refine below_set ?_ GE160.out)) hk))); (case aO => exact (Kd.R_up HO_3.out)); (case aS => exact (below_size (by with_reducible repeat first | exact HB.out | apply below_alloc | apply pw_below_drewN | apply below_drew1 | refine below_set ?_ GE160.out))); (case aL => have := LMc13.out; omega); intro v168 w19 ho hb hg hat; rw [← Ny167.out] at ho; replace HO_4 := Aside0.mk (Kd.V_afterv (ok := (fun k_ => (P0_1_ k_ ∨ w.heap.size ≤ k_) ∧ k_ ≠ gb160)) (Kd.V_up (Kd.V_mono HO_4.out (fun _ hk => ⟨⟨hk.1, hk.2.2⟩, hk.2.1⟩))) hg hat); replace HO_161001 := Aside0.mk (Kd.V_afterv (ok := (fun k_ => (P0_1_ k_ ∨ w.heap.size ≤ k_) ∧ k_ ≠ gb160)) (Kd.V_up (Kd.V_mono HO_161001.out (fun _ hk => ⟨⟨hk.1, hk.2.2⟩, hk.2.1⟩))) hg hat); replace BK160 := Aside0.mk (blk_grown (g := gb160) (o := .cells #[.bool a0_0, .slice A0_1 l0_1.length c0_1] 25 (0, 0)) (blk_up BK160.out) hg (Kd.R_ne HO_3.out BK160.out (by decide))); replace HO163 := Aside0.mk (Kd.V_afterv (ok := (fun k_ => (P0_1_ k_ ∨ w.heap.size ≤ k_) ∧ k_ ≠ gb160)) (Kd.V_up (Kd.V_mono HO163.out (fun _ hk => ⟨⟨hk.1, hk.2.2⟩, hk.2.1⟩))) hg hat); replace HB := Aside0.mk (hb); have HO169 := Aside0.mk (ho); clear HO_3 ho hb hg hat))
      go_roundg k1
      case measure => have := HK1.out; omega
      case rel => exact ⟨(y167), (t161), H', ⟨by have := HK1.out; omega⟩, ⟨Kd.R_up HO169.out⟩, ⟨Kd.V_up (Kd.V_mono HO163.out (fun _ hk => ⟨hk.1.1, ⟨hk.2, hk.1.2⟩⟩))⟩, ⟨Kd.V_up (Kd.V_mono HO_161001.out (fun _ hk => ⟨hk.1.1, ⟨hk.2, hk.1.2⟩⟩))⟩, ⟨by (with_reducible repeat (first | refine blk_drewN ?_ _ | refine blk_drew ?_ | refine blk_alloc ?_ _)); exact BK160.out⟩, ⟨by with_reducible repeat first | exact HB.out | apply below_alloc | apply pw_below_drewN | apply below_drew1 | refine below_set ?_ GE160.out⟩⟩
     ·
      rw [if_neg c10] at H
      have c10b0 := decide_eq_false c10
      have c10b1 : decide (0 < t161.length) = false := decide_eq_false (by omega)
      clear c10
      obtain ⟨c20, H⟩ := ite_some H
      have LMc20 := Aside0.mk c20
      clear c20
      obtain ⟨y170, hy170⟩ : ∃ y_ : List ByteArray, y_ = (x3_1 ++ [t165]) := ⟨_, rfl⟩
      replace H : (integer_Int_Text.l0 k1 y170 t161 a0_0 l0_1) = some r := by first | (rw [hy170]; exact H) | exact H
      have Ny170 := Aside0.mk hy170
      clear hy170
      have H' := Aside0.mk H
      clear H
      obtain ⟨Ao21, co21, eo21⟩ := Kd.V_slice HO_4.out
      subst eo21
      go_wp2_with (first | ((with_reducible refine gate_callee (f := 46) rfl ?_); refine gl_ (some 20) Tryd.func46 #[.slice Ao21 x4_1.length co21, .int .u32 1000000000] ?_; (with_reducible refine (integer_short.calls k1 _ _ x4_1 1000000000 t161 t164 _ ?side1 ?side2 A8.out).mono ?_); (case side1 => repeat (first | exact (Kd.V_reads' HO_4.out).2.2 | (with_reducible refine Kd.C_alloc ?_ _) | (with_reducible refine Kd.C_drewN ?_ _) | (with_reducible refine Kd.C_drew ?_))); (case side2 => exact (Kd.V_reads' HO_4.out).2.1); rintro e w22 ⟨v162, rfl, ho0, hb⟩; refine ⟨_, rfl, ?_⟩; replace HO_4 := Aside0.mk (Kd.V_below (Kd.V_up HO_4.out) hb); replace HO_161001 := Aside0.mk (Kd.V_below (Kd.V_up HO_161001.out) hb); have HO163 := Aside0.mk (Kd.V_lower (Kd.V_mono (ok' := fun k_ => (P0_1_ k_ ∨ w.heap.size ≤ k_) ∧ some k_ ≠ (u3 : Value).ownBlock ∧ k_ ≠ gb160) ho0 (fun k_ hk_ => ⟨(.inr (Nat.le_trans (below_size (by with_reducible repeat first | exact HB.out | apply below_alloc | apply pw_below_drewN | apply below_drew1 | refine below_set ?_ GE160.out)) hk_)), (Kd.fresh' (Kd.R_lt (Kd.R_up HO_3.out)) k_ hk_), (Kd.freshB (g := gb160) (o := .cells #[.bool a0_0, .slice A0_1 l0_1.length c0_1] 25 (0, 0)) (blk_up BK160.out) k_ hk_)⟩)) (below_size (by with_reducible repeat first | exact HB.out | apply below_alloc | apply pw_below_drewN | apply below_drew1 | refine below_set ?_ GE160.out))); replace HO_3 := Aside0.mk (Kd.R_below (Kd.R_up HO_3.out) hb); replace BK160 := Aside0.mk (blk_below (blk_up BK160.out) hb); replace HB := Aside0.mk (below_step (by with_reducible repeat first | exact HB.out | apply below_alloc | apply pw_below_drewN | apply below_drew1 | refine below_set ?_ GE160.out) hb); (try clear hb); (try clear hb2); (try clear hk); (try clear hi); (try clear ho0)) | ((with_reducible refine gate_callee (f := 47) rfl ?_); refine goesL_ (some 25) rfl rfl Tryd.func47 (by kernel_rfl) rfl #[.int .i64 (wrap64 (t164))] rfl (by (try simp only [List.map_toArray, List.map_cons, List.map_nil]); first | done | rfl | (simp only [List.length_drop, List.length_take]; rfl) | (rw [show wrap64 (t164) = (t164) from wrap64_of_ _ (by omega) (by omega)]; rfl)) ?_; (with_reducible refine (strconv_Itoa_47.calls (wrap64 (t164)) t165 _ ?side1 A9.out).mono ?_); (case side1 => exact G_below HG.out (by with_reducible repeat first | exact HB.out | apply below_alloc | apply pw_below_drewN | apply below_drew1 | refine below_set ?_ GE160.out)); rintro e w23 ⟨rfl, hb⟩; refine ⟨_, rfl, ?_⟩; replace HO_3 := Aside0.mk (Kd.R_below (Kd.R_up HO_3.out) hb); replace HO_4 := Aside0.mk (Kd.V_below (Kd.V_up HO_4.out) hb); replace HO_161001 := Aside0.mk (Kd.V_below (Kd.V_up HO_161001.out) hb); replace HO163 := Aside0.mk (Kd.V_below (Kd.V_up HO163.out) hb); replace BK160 := Aside0.mk (blk_below (blk_up BK160.out) hb); replace HB := Aside0.mk (below_step (by with_reducible repeat first | exact HB.out | apply below_alloc | apply pw_below_drewN | apply below_drew1 | refine below_set ?_ GE160.out) hb); (try clear hb); (try clear hb2); (try clear hk); (try clear hi); obtain ⟨Ao24, co24, eo24⟩ := Kd.V_slice HO163.out; subst eo24) | ((with_reducible refine gate_builtin (b := .append) (xs := #[.tmp 35, .tmp 37]) rfl ?_); at_builtin; refine Kd.R_append Kd.string (w0 := w) w.heap.size rfl (.tmp 35) (.tmp 37) 62 9 (.string ⟨#[]⟩) 16 rfl Tryd.underlying62 info9 rfl (by decide) (by omega) u3 x3_1 t165 [.string t165] (fun k_ => (w.heap.size ≤ k_)) (fun _ => False) rfl rfl ?aP (fun _ hk => hk.elim) ?aF ?aO ?aB ?aS ?aL ?_; (case aP => exact rfl); (case aB => exact (by with_reducible repeat first | exact HB.out | apply below_alloc | apply pw_below_drewN | apply below_drew1 | refine below_set ?_ GE160.out)); (case aF => exact (fun k_ hk => (Nat.le_trans (below_size (by with_reducible repeat first | exact HB.out | apply below_alloc | apply pw_below_drewN | apply below_drew1 | refine below_set ?_ GE160.out)) hk))); (case aO => exact (Kd.R_up HO_3.out)); (case aS => exact (below_size (by with_reducible repeat first | exact HB.out | apply below_alloc | apply pw_below_drewN | apply below_drew1 | refine below_set ?_ GE160.out))); (case aL => have := LMc20.out; omega); intro v171 w25 ho hb hg hat; rw [← Ny170.out] at ho; replace HO_4 := Aside0.mk (Kd.V_afterv (ok := (fun k_ => (P0_1_ k_ ∨ w.heap.size ≤ k_) ∧ k_ ≠ gb160)) (Kd.V_up (Kd.V_mono HO_4.out (fun _ hk => ⟨⟨hk.1, hk.2.2⟩, hk.2.1⟩))) hg hat); replace HO_161001 := Aside0.mk (Kd.V_afterv (ok := (fun k_ => (P0_1_ k_ ∨ w.heap.size ≤ k_) ∧ k_ ≠ gb160)) (Kd.V_up (Kd.V_mono HO_161001.out (fun _ hk => ⟨⟨hk.1, hk.2.2⟩, hk.2.1⟩))) hg hat); replace BK160 := Aside0.mk (blk_grown (g := gb160) (o := .cells #[.bool a0_0, .slice A0_1 l0_1.length c0_1] 25 (0, 0)) (blk_up BK160.out) hg (Kd.R_ne HO_3.out BK160.out (by decide))); replace HO163 := Aside0.mk (Kd.V_afterv (ok := (fun k_ => (P0_1_ k_ ∨ w.heap.size ≤ k_) ∧ k_ ≠ gb160)) (Kd.V_up (Kd.V_mono HO163.out (fun _ hk => ⟨⟨hk.1, hk.2.2⟩, hk.2.1⟩))) hg hat); replace HB := Aside0.mk (hb); have HO172 := Aside0.mk (ho); clear HO_3 ho hb hg hat))
      go_roundg k1
      case measure => have := HK1.out; omega
      case rel => exact ⟨(y170), (t161), H', ⟨by have := HK1.out; omega⟩, ⟨Kd.R_up HO172.out⟩, ⟨Kd.V_up (Kd.V_mono HO163.out (fun _ hk => ⟨hk.1.1, ⟨hk.2, hk.1.2⟩⟩))⟩, ⟨Kd.V_up (Kd.V_mono HO_161001.out (fun _ hk => ⟨hk.1.1, ⟨hk.2, hk.1.2⟩⟩))⟩, ⟨by (with_reducible repeat (first | refine blk_drewN ?_ _ | refine blk_drew ?_ | refine blk_alloc ?_ _)); exact BK160.out⟩, ⟨by with_reducible repeat first | exact HB.out | apply below_alloc | apply pw_below_drewN | apply below_drew1 | refine below_set ?_ GE160.out⟩⟩
    ·
     rw [if_neg c7] at H
     have c7b0 := decide_eq_false c7
     have c7b1 : decide (0 < x4_1.length) = false := decide_eq_false (by omega)
     clear c7
     replace H := Option.bind_eq_some_iff.mp H
     obtain ⟨t173, A260, H⟩ := H
     try dsimp only at H
     have A26 := Aside0.mk A260
     clear A260
     replace H := Option.bind_eq_some_iff.mp H
     obtain ⟨t174, A270, H⟩ := H
     try dsimp only at H
     have A27 := Aside0.mk A270
     clear A270
     by_cases c28 : a0_0 = true
     ·
      subst c28
      have H1 : (if 1 + t174.size ≤ 9223372036854775807 then (some ((⟨#[45]⟩ : ByteArray) ++ t174)) else (none)) = some r := by rw [if_pos rfl] at H; exact H
      clear H
      have H := H1
      clear H1
      obtain ⟨c29, H⟩ := ite_some H
      have c29b0 := eq_true c29
      have c29b1 := decide_eq_true c29
      try have c29b2 : (9223372036854775807 < 1 + t174.size) = False := eq_false (Nat.not_lt.2 c29)
      obtain rfl := Option.some.inj H
      obtain ⟨Ao30, co30, eo30⟩ := Kd.V_slice HO_4.out
      subst eo30
      obtain ⟨Ao31, co31, eo31⟩ := Kd.R_slice HO_3.out
      subst eo31
      go_wp2_with (first | ((with_reducible refine gate_callee (f := 49) rfl ?_); refine gl_ (some 41) Tryd.func49 #[.slice Ao31 x3_1.length co31] ?_; (with_reducible refine (slices_Reverse_string_string.calls k1 (fun k_ => some k_ = (.slice Ao31 x3_1.length co31 : Value).ownBlock) (.slice Ao31 x3_1.length co31) x3_1 t173 w _ ?side1 ?side2 A26.out).mono ?_); (case side1 => repeat (first | (with_reducible first | exact HB.out | apply below_alloc | apply pw_below_drewN | apply below_drew1 | refine below_set ?_ GE160.out) | exact HB.out)); (case side2 => exact Kd.R_tight rfl HO_3.out); rintro e w32 ⟨rfl, hy0, hb, hkp⟩; refine ⟨_, rfl, ?_⟩; replace HO_4 := Aside0.mk (Kd.V_mono (ok' := fun k_ => (P0_1_ k_ ∨ w.heap.size ≤ k_) ∧ some k_ ≠ (.slice Ao31 x3_1.length co31 : Value).ownBlock ∧ k_ ≠ gb160) (Kd.V_keptB (HO_4.out) hkp (fun k_ hk_ hs_ => (hk_.2.1) hs_)) (fun k_ hk_ => ⟨hk_.1.1, hk_.1.2.1, hk_.1.2.2⟩)); replace BK160 := Aside0.mk (blk_kept (blk_up BK160.out) hkp (fun hs_ => (fun e_ => (Kd.R_ne HO_3.out BK160.out (by decide)) e_) hs_)); replace HO_3 := Aside0.mk (Kd.R_reok rfl hy0 (fun k_ e_ => HO_3.out.1 k_ e_)); replace HB := Aside0.mk (hb); (try clear HO_161001); (try clear hb); (try clear hkp); (try clear hy0)) | ((with_reducible refine gate_callee (f := 50) rfl ?_); refine goesL_ (some 43) rfl rfl Tryd.func50 (by kernel_rfl) rfl #[.slice Ao31 t173.length co31, .string (⟨#[]⟩ : ByteArray)] rfl (by (try simp only [List.map_toArray, List.map_cons, List.map_nil]); first | done | (rw [show t173.length = x3_1.length from (Kd.R_reads' HO_3.out).1.symm] <;> rfl) | rfl | (simp only [List.length_drop, List.length_take]; rfl)) ?_; (with_reducible refine (strings_Join.calls _ _ t173 (⟨#[]⟩ : ByteArray) t174 _ ?side1 ?side2 A27.out).mono ?_); (case side1 => repeat (first | exact (Kd.R_reads' HO_3.out).2.2 | (with_reducible refine Kd.C_alloc ?_ _) | (with_reducible refine Kd.C_drewN ?_ _) | (with_reducible refine Kd.C_drew ?_))); (case side2 => rw [show t173.length = x3_1.length from (Kd.R_reads' HO_3.out).1.symm]; exact (Kd.R_reads' HO_3.out).2.1); rintro e w33 ⟨rfl, hb⟩; refine ⟨_, rfl, ?_⟩; replace HO_3 := Aside0.mk (Kd.R_below (Kd.R_up HO_3.out) hb); replace HO_4 := Aside0.mk (Kd.V_below (Kd.V_up HO_4.out) hb); replace BK160 := Aside0.mk (blk_below (blk_up BK160.out) hb); replace HB := Aside0.mk (below_step (by with_reducible repeat first | exact HB.out | apply below_alloc | apply pw_below_drewN | apply below_drew1 | refine below_set ?_ GE160.out) hb); (try clear hb); (try clear hb2); (try clear hk); (try clear hi); have hcz34_0 : w33.cell? ⟨gb160, 0, none⟩ = some (.bool true) := (blk_cell BK160.out 0).trans rfl; have hcz34_1 : w33.cell? ⟨gb160, 1, none⟩ = some (.slice A0_1 l0_1.length c0_1) := (blk_cell BK160.out 1).trans rfl; have hfz34_0 := blk_frozen BK160.out 0; have hfz34_1 := blk_frozen BK160.out 1))
      go_ret
      exact ⟨by first | rfl | (simp [errW_none, errW_some] <;> rfl) | (simp [*, errW_none, errW_some] <;> rfl), by with_reducible repeat first | exact HB.out | apply below_alloc | apply pw_below_drewN | apply below_drew1 | refine below_set ?_ GE160.out⟩
     ·
      replace c28 := Bool.eq_false_iff.mpr c28
      subst c28
      have H1 : (some t174) = some r := by rw [if_neg (show ¬ (false = true) by decide)] at H; exact H
      clear H
      have H := H1
      clear H1
      obtain rfl := Option.some.inj H
      obtain ⟨Ao35, co35, eo35⟩ := Kd.V_slice HO_4.out
      subst eo35
      obtain ⟨Ao36, co36, eo36⟩ := Kd.R_slice HO_3.out
      subst eo36
      go_wp2_with (first | ((with_reducible refine gate_callee (f := 49) rfl ?_); refine gl_ (some 41) Tryd.func49 #[.slice Ao36 x3_1.length co36] ?_; (with_reducible refine (slices_Reverse_string_string.calls k1 (fun k_ => some k_ = (.slice Ao36 x3_1.length co36 : Value).ownBlock) (.slice Ao36 x3_1.length co36) x3_1 t173 w _ ?side1 ?side2 A26.out).mono ?_); (case side1 => repeat (first | (with_reducible first | exact HB.out | apply below_alloc | apply pw_below_drewN | apply below_drew1 | refine below_set ?_ GE160.out) | exact HB.out)); (case side2 => exact Kd.R_tight rfl HO_3.out); rintro e w37 ⟨rfl, hy0, hb, hkp⟩; refine ⟨_, rfl, ?_⟩; replace BK160 := Aside0.mk (blk_kept (blk_up BK160.out) hkp (fun hs_ => (fun e_ => (Kd.R_ne HO_3.out BK160.out (by decide)) e_) hs_)); replace HO_3 := Aside0.mk (Kd.R_reok rfl hy0 (fun k_ e_ => HO_3.out.1 k_ e_)); replace HB := Aside0.mk (hb); (try clear HO_4); (try clear hb); (try clear hkp); (try clear hy0)) | ((with_reducible refine gate_callee (f := 50) rfl ?_); refine goesL_ (some 43) rfl rfl Tryd.func50 (by kernel_rfl) rfl #[.slice Ao36 t173.length co36, .string (⟨#[]⟩ : ByteArray)] rfl (by (try simp only [List.map_toArray, List.map_cons, List.map_nil]); first | done | (rw [show t173.length = x3_1.length from (Kd.R_reads' HO_3.out).1.symm] <;> rfl) | rfl | (simp only [List.length_drop, List.length_take]; rfl)) ?_; (with_reducible refine (strings_Join.calls _ _ t173 (⟨#[]⟩ : ByteArray) t174 _ ?side1 ?side2 A27.out).mono ?_); (case side1 => repeat (first | exact (Kd.R_reads' HO_3.out).2.2 | (with_reducible refine Kd.C_alloc ?_ _) | (with_reducible refine Kd.C_drewN ?_ _) | (with_reducible refine Kd.C_drew ?_))); (case side2 => rw [show t173.length = x3_1.length from (Kd.R_reads' HO_3.out).1.symm]; exact (Kd.R_reads' HO_3.out).2.1); rintro e w38 ⟨rfl, hb⟩; refine ⟨_, rfl, ?_⟩; have n3_ := Aside0.mk (blk_below (blk_up BK160.out) hb); have n4_ := Aside0.mk (below_step (by with_reducible repeat first | exact HB.out | apply below_alloc | apply pw_below_drewN | apply below_drew1 | refine below_set ?_ GE160.out) hb); (try clear HO_3); clear BK160 HB; have BK160 := n3_; have HB := n4_; clear n3_ n4_; (try clear hb); (try clear hb2); (try clear hk); (try clear hi); have hcz39_0 : w38.cell? ⟨gb160, 0, none⟩ = some (.bool false) := (blk_cell BK160.out 0).trans rfl; have hcz39_1 : w38.cell? ⟨gb160, 1, none⟩ = some (.slice A0_1 l0_1.length c0_1) := (blk_cell BK160.out 1).trans rfl; have hfz39_0 := blk_frozen BK160.out 0; have hfz39_1 := blk_frozen BK160.out 1))
      go_ret
      exact ⟨by first | rfl | (simp [errW_none, errW_some] <;> rfl) | (simp [*, errW_none, errW_some] <;> rfl), by with_reducible repeat first | exact HB.out | apply below_alloc | apply pw_below_drewN | apply below_drew1 | refine below_set ?_ GE160.out⟩
def integer_Int_Sign.f (a0_0 : Bool) (l0_1 : List Int) : Option (Int) := if (l0_1.length : Int) = 0 then (some 0) else (if a0_0 = true then (some (-1)) else (some 1))
set_option maxHeartbeats 8000000 in
set_option maxRecDepth 100000 in
theorem integer_Int_Sign.calls (a0_0 : Bool) (A0_1 : Option Addr) (c0_1 : Nat) (l0_1 : List Int) (r : Int) (w : World) (hr0_1 : Kd.C (Kd.int .u32) w A0_1 l0_1.length l0_1) (hc0_1 : l0_1.length ≤ c0_1) (h : integer_Int_Sign.f a0_0 l0_1 = some r) :
  Calls Tryd.prog 19 #[.agg #[.bool a0_0, .slice A0_1 l0_1.length c0_1]] w fun e w' => e = .returned (.int .i64 r) ∧ Below w.heap.size w w' := by
 have hu25 := Tryd.underlying25
 have HR0_1 := Aside0.mk hr0_1
 have HC0_1 := Aside0.mk hc0_1
 clear hr0_1 hc0_1
 have HB := Aside0.mk (Below.refl w.heap.size w)
 have H := h
 unfold integer_Int_Sign.f at H
 clear h
 by_cases c2 : (l0_1.length : Int) = 0
 ·
  rw [if_pos c2] at H
  have c2b0 : ((l0_1.length : Int) == 0) = true := beq_iff_eq.mpr c2
  have c2b1 : ((l0_1.length : Int) != 0) = false := bne_eq_false_iff_eq.mpr c2
  clear c2
  obtain rfl := Option.some.inj H
  go_enter Tryd.func19, Tryd.ntmps19
  go_wp2_with (first | ((with_reducible refine gate_dst (N := 1) rfl ?_); refine box_event ?hg (N := 1) ?hd (cs := #[.bool a0_0, .slice A0_1 l0_1.length c0_1]) (t := 25) ?hr ?_; (case hd => rfl); (case hg => rfl); (case hr => first | (go_simp; done) | (go_simp; rfl)); intro gb175 hg w3 hbox hb; have BK175 := Aside0.mk (hbox); have GE175 := Aside0.mk ((size_up hg HB.out : w.heap.size ≤ gb175)); replace HB := Aside0.mk (below_step (below_up HB.out) hb); clear hb hbox hg; have hcz4_0 : w3.cell? ⟨gb175, 0, none⟩ = some (.bool a0_0) := (blk_cell BK175.out 0).trans rfl; have hcz4_1 : w3.cell? ⟨gb175, 1, none⟩ = some (.slice A0_1 l0_1.length c0_1) := (blk_cell BK175.out 1).trans rfl; have hfz4_0 := blk_frozen BK175.out 0; have hfz4_1 := blk_frozen BK175.out 1))
  go_ret
  exact ⟨by first | rfl | (simp [errW_none, errW_some] <;> rfl) | (simp [*, errW_none, errW_some] <;> rfl), by with_reducible repeat first | exact HB.out | apply below_alloc | apply pw_below_drewN | apply below_drew1 | refine below_set ?_ GE175.out⟩
 ·
  rw [if_neg c2] at H
  have c2b0 : ((l0_1.length : Int) == 0) = false := beq_eq_false_iff_ne.mpr c2
  have c2b1 : ((l0_1.length : Int) != 0) = true := bne_iff_ne.mpr c2
  have c2b2 : ¬ (l0_1 = []) := fun h_ => c2 (by rw [h_]; rfl)
  by_cases c5 : a0_0 = true
  ·
   subst c5
   have H1 : (some (-1)) = some r := by rw [if_pos rfl] at H; exact H
   clear H
   have H := H1
   clear H1
   obtain rfl := Option.some.inj H
   go_enter Tryd.func19, Tryd.ntmps19
   go_wp2_with (first | ((with_reducible refine gate_dst (N := 1) rfl ?_); refine box_event ?hg (N := 1) ?hd (cs := #[.bool true, .slice A0_1 l0_1.length c0_1]) (t := 25) ?hr ?_; (case hd => rfl); (case hg => rfl); (case hr => first | (go_simp; done) | (go_simp; rfl)); intro gb175 hg w6 hbox hb; have BK175 := Aside0.mk (hbox); have GE175 := Aside0.mk ((size_up hg HB.out : w.heap.size ≤ gb175)); replace HB := Aside0.mk (below_step (below_up HB.out) hb); clear hb hbox hg; have hcz7_0 : w6.cell? ⟨gb175, 0, none⟩ = some (.bool true) := (blk_cell BK175.out 0).trans rfl; have hcz7_1 : w6.cell? ⟨gb175, 1, none⟩ = some (.slice A0_1 l0_1.length c0_1) := (blk_cell BK175.out 1).trans rfl; have hfz7_0 := blk_frozen BK175.out 0; have hfz7_1 := blk_frozen BK175.out 1))
   go_ret
   exact ⟨by first | rfl | (simp [errW_none, errW_some] <;> rfl) | (simp [*, errW_none, errW_some] <;> rfl), by with_reducible repeat first | exact HB.out | apply below_alloc | apply pw_below_drewN | apply below_drew1 | refine below_set ?_ GE175.out⟩
  ·
   replace c5 := Bool.eq_false_iff.mpr c5
   subst c5
   have H1 : (some 1) = some r := by rw [if_neg (show ¬ (false = true) by decide)] at H; exact H
   clear H
   have H := H1
   clear H1
   obtain rfl := Option.some.inj H
   go_enter Tryd.func19, Tryd.ntmps19
   go_wp2_with (first | ((with_reducible refine gate_dst (N := 1) rfl ?_); refine box_event ?hg (N := 1) ?hd (cs := #[.bool false, .slice A0_1 l0_1.length c0_1]) (t := 25) ?hr ?_; (case hd => rfl); (case hg => rfl); (case hr => first | (go_simp; done) | (go_simp; rfl)); intro gb175 hg w8 hbox hb; have BK175 := Aside0.mk (hbox); have GE175 := Aside0.mk ((size_up hg HB.out : w.heap.size ≤ gb175)); replace HB := Aside0.mk (below_step (below_up HB.out) hb); clear hb hbox hg; have hcz9_0 : w8.cell? ⟨gb175, 0, none⟩ = some (.bool false) := (blk_cell BK175.out 0).trans rfl; have hcz9_1 : w8.cell? ⟨gb175, 1, none⟩ = some (.slice A0_1 l0_1.length c0_1) := (blk_cell BK175.out 1).trans rfl; have hfz9_0 := blk_frozen BK175.out 0; have hfz9_1 := blk_frozen BK175.out 1))
   go_ret
   exact ⟨by first | rfl | (simp [errW_none, errW_some] <;> rfl) | (simp [*, errW_none, errW_some] <;> rfl), by with_reducible repeat first | exact HB.out | apply below_alloc | apply pw_below_drewN | apply below_drew1 | refine below_set ?_ GE175.out⟩
def integer_signed.f (k : Nat) (a0 : Bool) (l1 : List Int) : Option (Bool × List Int) := (integer_trim.f k l1).bind fun t108 => (if a0 = true then (some (decide (0 < t108.length), t108)) else (some (false, t108)))
theorem integer_signed.mono : ∀ a0 a1 k, LeO (integer_signed.f k a0 a1) (integer_signed.f (k + 1) a0 a1) := by
 intro a0 a1 k
 unfold integer_signed.f
 repeat' with_reducible first | exact integer_trim.mono _ _ | exact LeO.refl _ | exact LeO.none _ | refine LeO.ite ?_ ?_ | refine LeO.bind ?_ (fun _ => ?_)
set_option maxHeartbeats 8000000 in
set_option maxRecDepth 100000 in
theorem integer_signed.calls (k : Nat) (a0 : Bool) (P1_ : Nat → Prop) (A1 : Option Addr) (c1 : Nat) (l1 : List Int) (r1 : Bool) (r2 : List Int) (w : World) (hs1 : Kd.V (Kd.int .u32) 60 w w.heap.size (fun k_ => P1_ k_) (.slice A1 l1.length c1) l1) (h : integer_signed.f k a0 l1 = some (r1, r2)) :
  Calls Tryd.prog 45 #[.bool a0, .slice A1 l1.length c1] w fun e w' => ∃ v1_ : Value, e = .returned (.agg #[.bool r1, v1_]) ∧ Kd.V (Kd.int .u32) 60 w' w.heap.size (fun k_ => (P1_ k_ ∨ w.heap.size ≤ k_)) v1_ r2 ∧ Below w.heap.size w w' := by
 have hu25 := Tryd.underlying25
 have HO1 := Aside0.mk (show Kd.V (Kd.int .u32) 60 w w.heap.size (fun k_ => (P1_ k_ ∨ w.heap.size ≤ k_)) (.slice A1 l1.length c1) l1 from Kd.V_mono hs1 (fun k_ hk => .inl hk))
 have HB := Aside0.mk (Below.refl w.heap.size w)
 have H := h
 unfold integer_signed.f at H
 clear h
 replace H := Option.bind_eq_some_iff.mp H
 obtain ⟨t108, A30, H⟩ := H
 try dsimp only at H
 have A3 := Aside0.mk A30
 clear A30
 by_cases c4 : a0 = true
 ·
  subst c4
  have H1 : (some (decide (0 < t108.length), t108)) = some (r1, r2) := by rw [if_pos rfl] at H; exact H
  clear H
  have H := H1
  clear H1
  simp only [Option.some.injEq, Prod.mk.injEq] at H
  obtain ⟨rfl, rfl⟩ := H
  go_enter Tryd.func45, Tryd.ntmps45
  go_wp2_with (first | ((with_reducible refine gate_dst (N := 4) rfl ?_); (try (refine gate_guard (by rfl) ?_; dsimp only)); refine box_event ?hg (N := 4) ?hd (cs := #[.bool false, .slice none 0 0]) (t := 25) ?hr ?_; (case hd => rfl); (case hg => rfl); (case hr => first | (go_simp; done) | (go_simp; rfl)); intro gb107 hg w5 hbox hb; replace HO1 := Aside0.mk (Kd.V_below (Kd.V_elderB (Kd.V_up HO1.out) gb107 (Nat.le_of_eq hg.symm)) hb); have BK107 := Aside0.mk (hbox); have GE107 := Aside0.mk ((size_up hg HB.out : w.heap.size ≤ gb107)); replace HB := Aside0.mk (below_step (below_up HB.out) hb); clear hb hbox hg) | ((with_reducible refine gate_callee (f := 67) rfl ?_); refine gl_ (some 6) Tryd.func67 #[.slice A1 l1.length c1] ?_; (with_reducible refine (integer_trim.calls k (fun k_ => ((P1_ k_ ∨ w.heap.size ≤ k_) ∧ k_ ≠ gb107)) _ _ l1 t108 _ ?side1 A3.out).mono ?_); (case side1 => exact HO1.out); rintro e w6 ⟨v109, rfl, ho0, hb⟩; refine ⟨_, rfl, ?_⟩; replace HO1 := Aside0.mk (Kd.V_below (Kd.V_up HO1.out) hb); have HO110 := Aside0.mk (Kd.V_lower (Kd.V_mono (ok' := fun k_ => (P1_ k_ ∨ w.heap.size ≤ k_) ∧ k_ ≠ gb107) ho0 (fun k_ hk_ => ⟨Or.elim hk_ (fun hs_ => hs_.1) (fun hn_ => (.inr (Nat.le_trans (below_size (by with_reducible repeat first | exact HB.out | apply below_alloc | apply pw_below_drewN | apply below_drew1 | refine below_set ?_ GE107.out)) hn_))), Or.elim hk_ (fun hs_ => hs_.2) (fun hn_ => (Kd.freshB (g := gb107) (o := .cells #[.bool false, .slice none 0 0] 25 (0, 0)) (blk_up BK107.out) k_ hn_))⟩)) (below_size (by with_reducible repeat first | exact HB.out | apply below_alloc | apply pw_below_drewN | apply below_drew1 | refine below_set ?_ GE107.out))); replace BK107 := Aside0.mk (blk_below (blk_up BK107.out) hb); replace HB := Aside0.mk (below_step (by with_reducible repeat first | exact HB.out | apply below_alloc | apply pw_below_drewN | apply below_drew1 | refine below_set ?_ GE107.out) hb); (try clear hb); (try clear hb2); (try clear hk); (try clear hi); (try clear ho0); obtain ⟨Ao7, co7, eo7⟩ := Kd.V_slice HO110.out; subst eo7; have hcz8_0 : w6.cell? ⟨gb107, 0, none⟩ = some (.bool false) := (blk_cell BK107.out 0).trans rfl; have hcz8_1 : w6.cell? ⟨gb107, 1, none⟩ = some (.slice none 0 0) := (blk_cell BK107.out 1).trans rfl; have hfz8_0 := blk_frozen BK107.out 0; have hfz8_1 := blk_frozen BK107.out 1))
  refine bodyPost_ret (results_cell_row rfl _ _ gb107 25 #[.bool (decide (0 < t108.length)), .slice Ao7 t108.length co7] (0, 0) _ rfl (by refine blk_ups ?_; refine blk_put (cs := #[.bool (decide (0 < t108.length)), .slice none 0 0]) ?_ 1 _ rfl; refine blk_ups ?_; refine blk_put (cs := #[.bool false, .slice none 0 0]) ?_ 0 _ rfl; exact blk_up BK107.out) Tryd.underlying25 rfl (by kernel_rfl)) rfl ?_
  exact ⟨_, by first | rfl | (simp [errW_none, errW_some] <;> rfl) | (simp [*, errW_none, errW_some] <;> rfl), Kd.V_up (Kd.V_mono (Kd.V_far (p := ⟨gb107, 1, none⟩) (Kd.V_far (p := ⟨gb107, 0, none⟩) (Kd.V_mono HO110.out (fun k_ hk => (⟨hk, hk.2⟩ : _ ∧ k_ ≠ gb107))) (fun _ hk => hk.2) (.bool (decide (0 < t108.length)))) (fun _ hk => hk.2) (.slice Ao7 t108.length co7)) (fun _ hk => hk.1.1)), by with_reducible repeat first | exact HB.out | apply below_alloc | apply pw_below_drewN | apply below_drew1 | refine below_set ?_ GE107.out⟩
 ·
  replace c4 := Bool.eq_false_iff.mpr c4
  subst c4
  have H1 : (some (false, t108)) = some (r1, r2) := by rw [if_neg (show ¬ (false = true) by decide)] at H; exact H
  clear H
  have H := H1
  clear H1
  simp only [Option.some.injEq, Prod.mk.injEq] at H
  obtain ⟨rfl, rfl⟩ := H
  go_enter Tryd.func45, Tryd.ntmps45
  go_wp2_with (first | ((with_reducible refine gate_dst (N := 4) rfl ?_); (try (refine gate_guard (by rfl) ?_; dsimp only)); refine box_event ?hg (N := 4) ?hd (cs := #[.bool false, .slice none 0 0]) (t := 25) ?hr ?_; (case hd => rfl); (case hg => rfl); (case hr => first | (go_simp; done) | (go_simp; rfl)); intro gb107 hg w9 hbox hb; replace HO1 := Aside0.mk (Kd.V_below (Kd.V_elderB (Kd.V_up HO1.out) gb107 (Nat.le_of_eq hg.symm)) hb); have BK107 := Aside0.mk (hbox); have GE107 := Aside0.mk ((size_up hg HB.out : w.heap.size ≤ gb107)); replace HB := Aside0.mk (below_step (below_up HB.out) hb); clear hb hbox hg) | ((with_reducible refine gate_callee (f := 67) rfl ?_); refine gl_ (some 6) Tryd.func67 #[.slice A1 l1.length c1] ?_; (with_reducible refine (integer_trim.calls k (fun k_ => ((P1_ k_ ∨ w.heap.size ≤ k_) ∧ k_ ≠ gb107)) _ _ l1 t108 _ ?side1 A3.out).mono ?_); (case side1 => exact HO1.out); rintro e w10 ⟨v109, rfl, ho0, hb⟩; refine ⟨_, rfl, ?_⟩; have n1_ := Aside0.mk (Kd.V_lower (Kd.V_mono (ok' := fun k_ => (P1_ k_ ∨ w.heap.size ≤ k_) ∧ k_ ≠ gb107) ho0 (fun k_ hk_ => ⟨Or.elim hk_ (fun hs_ => hs_.1) (fun hn_ => (.inr (Nat.le_trans (below_size (by with_reducible repeat first | exact HB.out | apply below_alloc | apply pw_below_drewN | apply below_drew1 | refine below_set ?_ GE107.out)) hn_))), Or.elim hk_ (fun hs_ => hs_.2) (fun hn_ => (Kd.freshB (g := gb107) (o := .cells #[.bool false, .slice none 0 0] 25 (0, 0)) (blk_up BK107.out) k_ hn_))⟩)) (below_size (by with_reducible repeat first | exact HB.out | apply below_alloc | apply pw_below_drewN | apply below_drew1 | refine below_set ?_ GE107.out))); have n2_ := Aside0.mk (blk_below (blk_up BK107.out) hb); have n3_ := Aside0.mk (below_step (by with_reducible repeat first | exact HB.out | apply below_alloc | apply pw_below_drewN | apply below_drew1 | refine below_set ?_ GE107.out) hb); (try clear HO1); clear BK107 HB; have HO110 := n1_; have BK107 := n2_; have HB := n3_; clear n1_ n2_ n3_; (try clear hb); (try clear hb2); (try clear hk); (try clear hi); (try clear ho0); obtain ⟨Ao11, co11, eo11⟩ := Kd.V_slice HO110.out; subst eo11; have hcz12_0 : w10.cell? ⟨gb107, 0, none⟩ = some (.bool false) := (blk_cell BK107.out 0).trans rfl; have hcz12_1 : w10.cell? ⟨gb107, 1, none⟩ = some (.slice none 0 0) := (blk_cell BK107.out 1).trans rfl; have hfz12_0 := blk_frozen BK107.out 0; have hfz12_1 := blk_frozen BK107.out 1))
  refine bodyPost_ret (results_cell_row rfl _ _ gb107 25 #[.bool false, .slice Ao11 t108.length co11] (0, 0) _ rfl (by refine blk_ups ?_; refine blk_put (cs := #[.bool false, .slice none 0 0]) ?_ 1 _ rfl; refine blk_ups ?_; refine blk_put (cs := #[.bool false, .slice none 0 0]) ?_ 0 _ rfl; exact blk_up BK107.out) Tryd.underlying25 rfl (by kernel_rfl)) rfl ?_
  exact ⟨_, by first | rfl | (simp [errW_none, errW_some] <;> rfl) | (simp [*, errW_none, errW_some] <;> rfl), Kd.V_up (Kd.V_mono (Kd.V_far (p := ⟨gb107, 1, none⟩) (Kd.V_far (p := ⟨gb107, 0, none⟩) (Kd.V_mono HO110.out (fun k_ hk => (⟨hk, hk.2⟩ : _ ∧ k_ ≠ gb107))) (fun _ hk => hk.2) (.bool false)) (fun _ hk => hk.2) (.slice Ao11 t108.length co11)) (fun _ hk => hk.1.1)), by with_reducible repeat first | exact HB.out | apply below_alloc | apply pw_below_drewN | apply below_drew1 | refine below_set ?_ GE107.out⟩
def integer_From.f (k : Nat) (a0 : Int) : Option (Bool × List Int) := if a0 < 0 then ((integer_signed.f k true (([(IntKind.u64.wrap (-(IntKind.u64.wrap (a0)))) % 4294967296, ((IntKind.u64.wrap (-(IntKind.u64.wrap (a0)))) / 4294967296) % 4294967296] : List Int))).bind fun bt115 => (some (bt115.1, bt115.2))) else ((integer_signed.f k false (([(IntKind.u64.wrap (a0)) % 4294967296, ((IntKind.u64.wrap (a0)) / 4294967296) % 4294967296] : List Int))).bind fun bt122 => (some (bt122.1, bt122.2)))
theorem integer_From.mono : ∀ a0 k, LeO (integer_From.f k a0) (integer_From.f (k + 1) a0) := by
 intro a0 k
 unfold integer_From.f
 repeat' with_reducible first | exact integer_signed.mono _ _ _ | exact LeO.refl _ | exact LeO.none _ | refine LeO.ite ?_ ?_ | refine LeO.bind ?_ (fun _ => ?_)
set_option maxHeartbeats 8000000 in
set_option maxRecDepth 100000 in
theorem integer_From.calls (k : Nat) (a0 : Int) (r1 : Bool) (r2 : List Int) (w : World) (h : integer_From.f k a0 = some (r1, r2)) :
  Calls Tryd.prog 15 #[.int .i64 a0] w fun e w' => ∃ v1_ : Value, e = .returned (.agg #[.bool r1, v1_]) ∧ Kd.V (Kd.int .u32) 60 w' w.heap.size (fun k_ => (w.heap.size ≤ k_)) v1_ r2 ∧ Below w.heap.size w w' := by
 have hu25 := Tryd.underlying25
 have HB := Aside0.mk (Below.refl w.heap.size w)
 have H := h
 unfold integer_From.f at H
 clear h
 by_cases c2 : a0 < 0
 ·
  rw [if_pos c2] at H
  have c2b0 := decide_eq_true c2
  clear c2
  obtain ⟨y112, hy112⟩ : ∃ y_ : List Int, y_ = (([(IntKind.u64.wrap (-(IntKind.u64.wrap (a0)))) % 4294967296, ((IntKind.u64.wrap (-(IntKind.u64.wrap (a0)))) / 4294967296) % 4294967296] : List Int)) := ⟨_, rfl⟩
  replace H : ((integer_signed.f k true y112).bind fun bt115 => (some (bt115.1, bt115.2))) = some (r1, r2) := by first | (rw [hy112]; exact H) | exact H
  have Ny112 := Aside0.mk hy112
  clear hy112
  replace H := Option.bind_eq_some_iff.mp H
  obtain ⟨⟨t115, t116⟩, A30, H⟩ := H
  try dsimp only at H
  have A3 := Aside0.mk A30
  clear A30
  simp only [Option.some.injEq, Prod.mk.injEq] at H
  obtain ⟨rfl, rfl⟩ := H
  go_enter Tryd.func15, Tryd.ntmps15
  go_wp2_with (first | ((with_reducible refine gate_dst (N := 2) rfl ?_); refine box_event ?hg (N := 2) ?hd (cs := #[.bool false, .slice none 0 0]) (t := 25) ?hr ?_; (case hd => rfl); (case hg => rfl); (case hr => first | (go_simp; done) | (go_simp; rfl)); intro gb111 hg w4 hbox hb; have BK111 := Aside0.mk (hbox); have GE111 := Aside0.mk ((size_up hg HB.out : w.heap.size ≤ gb111)); replace HB := Aside0.mk (below_step (below_up HB.out) hb); clear hb hbox hg) | ((with_reducible refine gate_dst (N := 17) rfl ?_); refine Kd.R_lit (Kd.int .u32) _ 60 ?hg (N := 17) ?hd (xs := ([(IntKind.u64.wrap (-(IntKind.u64.wrap (a0)))) % 4294967296, ((IntKind.u64.wrap (-(IntKind.u64.wrap (a0)))) / 4294967296) % 4294967296] : List Int)) (inner := [.int .u32 ((IntKind.u64.wrap (-(IntKind.u64.wrap (a0)))) % 4294967296), .int .u32 (((IntKind.u64.wrap (-(IntKind.u64.wrap (a0)))) / 4294967296) % 4294967296)]) (ok := fun _ => True) (okp := fun _ => True) ?hr ?hp (fun _ hk => hk) trivial (Below.refl _ _) (Nat.le_refl _) (by simp) ?_; (case hd => rfl); (case hg => rfl); (case hr => first | (go_simp; done) | (go_simp; rfl)); (case hp => exact (Reps.one (show Kd.M (Kd.int .u32) _ _ _ ((IntKind.u64.wrap (-(IntKind.u64.wrap (a0)))) % 4294967296) [.int .u32 ((IntKind.u64.wrap (-(IntKind.u64.wrap (a0)))) % 4294967296)] from rfl) (Reps.one (show Kd.M (Kd.int .u32) _ _ _ (((IntKind.u64.wrap (-(IntKind.u64.wrap (a0)))) / 4294967296) % 4294967296) [.int .u32 (((IntKind.u64.wrap (-(IntKind.u64.wrap (a0)))) / 4294967296) % 4294967296)] from rfl) (Reps.none _ _)))); intro v113 w5 ho6 hb hg_ hnew_; clear hg_ hnew_; (first | rw [← Ny112.out] at ho6 | (simp only [Int.reduceToNat] at ho6; rw [← Ny112.out] at ho6)); have HO114 := Aside0.mk (Kd.R_lower (Kd.R_newM (M := fun k_ => (w.heap.size ≤ k_)) ho6 (below_size (by with_reducible repeat first | exact HB.out | apply below_alloc | apply pw_below_drewN | apply below_drew1 | refine below_set ?_ GE111.out)) (fun k_ h_ => h_)) (below_size (by with_reducible repeat first | exact HB.out | apply below_alloc | apply pw_below_drewN | apply below_drew1 | refine below_set ?_ GE111.out))); replace BK111 := Aside0.mk (blk_below (blk_up BK111.out) hb); replace HB := Aside0.mk (below_step (by with_reducible repeat first | exact HB.out | apply below_alloc | apply pw_below_drewN | apply below_drew1 | refine below_set ?_ GE111.out) hb); clear hb ho6; obtain ⟨Ao7, co7, eo7⟩ := Kd.R_slice HO114.out; subst eo7) | ((with_reducible refine gate_callee (f := 45) rfl ?_); refine gl_ (some 18) Tryd.func45 #[.bool true, .slice Ao7 y112.length co7] ?_; (with_reducible refine (integer_signed.calls k true (fun k_ => some k_ = (.slice Ao7 y112.length co7 : Value).ownBlock) _ _ y112 t115 t116 _ ?side1 A3.out).mono ?_); (case side1 => exact Kd.R_V (Kd.R_tight rfl (Kd.R_types (HO114.out) BK111.out (by decide)))); rintro e w8 ⟨v117, rfl, ho0, hb⟩; refine ⟨_, rfl, ?_⟩; have n1_ := Aside0.mk (Kd.V_lower (Kd.V_mono (ok' := fun k_ => (w.heap.size ≤ k_) ∧ k_ ≠ gb111) ho0 (fun k_ hk_ => ⟨Or.elim hk_ (fun hs_ => ((Kd.R_types (HO114.out) BK111.out (by decide)).1 k_ hs_.symm).1.1) (fun hn_ => (Nat.le_trans (below_size (by with_reducible repeat first | exact HB.out | apply below_alloc | apply pw_below_drewN | apply below_drew1 | refine below_set ?_ GE111.out)) hn_)), Or.elim hk_ (fun hs_ => ((Kd.R_types (HO114.out) BK111.out (by decide)).1 k_ hs_.symm).2) (fun hn_ => (Kd.freshB (g := gb111) (o := .cells #[.bool false, .slice none 0 0] 25 (0, 0)) (blk_up BK111.out) k_ hn_))⟩)) (below_size (by with_reducible repeat first | exact HB.out | apply below_alloc | apply pw_below_drewN | apply below_drew1 | refine below_set ?_ GE111.out))); have n2_ := Aside0.mk (blk_below (blk_up BK111.out) hb); have n3_ := Aside0.mk (below_step (by with_reducible repeat first | exact HB.out | apply below_alloc | apply pw_below_drewN | apply below_drew1 | refine below_set ?_ GE111.out) hb); (try clear HO114); clear BK111 HB; have HO118 := n1_; have BK111 := n2_; have HB := n3_; clear n1_ n2_ n3_; (try clear hb); (try clear hb2); (try clear hk); (try clear hi); (try clear ho0); have hcz9_0 : w8.cell? ⟨gb111, 0, none⟩ = some (.bool false) := (blk_cell BK111.out 0).trans rfl; have hcz9_1 : w8.cell? ⟨gb111, 1, none⟩ = some (.slice none 0 0) := (blk_cell BK111.out 1).trans rfl; have hfz9_0 := blk_frozen BK111.out 0; have hfz9_1 := blk_frozen BK111.out 1; obtain ⟨Ao10, co10, eo10⟩ := Kd.V_slice HO118.out; subst eo10))
  refine bodyPost_ret (results_cell_row rfl _ _ gb111 25 #[.bool t115, .slice Ao10 t116.length co10] (0, 0) _ rfl (by refine blk_ups ?_; refine blk_put (cs := #[.bool t115, .slice none 0 0]) ?_ 1 _ rfl; refine blk_ups ?_; refine blk_put (cs := #[.bool false, .slice none 0 0]) ?_ 0 _ rfl; exact blk_up BK111.out) Tryd.underlying25 rfl (by kernel_rfl)) rfl ?_
  exact ⟨_, by first | rfl | (simp [errW_none, errW_some] <;> rfl) | (simp [*, errW_none, errW_some] <;> rfl), Kd.V_up (Kd.V_mono (Kd.V_far (p := ⟨gb111, 1, none⟩) (Kd.V_far (p := ⟨gb111, 0, none⟩) (Kd.V_mono HO118.out (fun k_ hk => (⟨hk, hk.2⟩ : _ ∧ k_ ≠ gb111))) (fun _ hk => hk.2) (.bool t115)) (fun _ hk => hk.2) (.slice Ao10 t116.length co10)) (fun _ hk => hk.1.1)), by with_reducible repeat first | exact HB.out | apply below_alloc | apply pw_below_drewN | apply below_drew1 | refine below_set ?_ GE111.out⟩
 ·
  rw [if_neg c2] at H
  have c2b0 := decide_eq_false c2
  clear c2
  obtain ⟨y119, hy119⟩ : ∃ y_ : List Int, y_ = (([(IntKind.u64.wrap (a0)) % 4294967296, ((IntKind.u64.wrap (a0)) / 4294967296) % 4294967296] : List Int)) := ⟨_, rfl⟩
  replace H : ((integer_signed.f k false y119).bind fun bt122 => (some (bt122.1, bt122.2))) = some (r1, r2) := by first | (rw [hy119]; exact H) | exact H
  have Ny119 := Aside0.mk hy119
  clear hy119
  replace H := Option.bind_eq_some_iff.mp H
  obtain ⟨⟨t122, t123⟩, A110, H⟩ := H
  try dsimp only at H
  have A11 := Aside0.mk A110
  clear A110
  simp only [Option.some.injEq, Prod.mk.injEq] at H
  obtain ⟨rfl, rfl⟩ := H
  go_enter Tryd.func15, Tryd.ntmps15
  go_wp2_with (first | ((with_reducible refine gate_dst (N := 2) rfl ?_); refine box_event ?hg (N := 2) ?hd (cs := #[.bool false, .slice none 0 0]) (t := 25) ?hr ?_; (case hd => rfl); (case hg => rfl); (case hr => first | (go_simp; done) | (go_simp; rfl)); intro gb111 hg w12 hbox hb; have BK111 := Aside0.mk (hbox); have GE111 := Aside0.mk ((size_up hg HB.out : w.heap.size ≤ gb111)); replace HB := Aside0.mk (below_step (below_up HB.out) hb); clear hb hbox hg) | ((with_reducible refine gate_dst (N := 17) rfl ?_); refine Kd.R_lit (Kd.int .u32) _ 60 ?hg (N := 17) ?hd (xs := ([(IntKind.u64.wrap (a0)) % 4294967296, ((IntKind.u64.wrap (a0)) / 4294967296) % 4294967296] : List Int)) (inner := [.int .u32 ((IntKind.u64.wrap (a0)) % 4294967296), .int .u32 (((IntKind.u64.wrap (a0)) / 4294967296) % 4294967296)]) (ok := fun _ => True) (okp := fun _ => True) ?hr ?hp (fun _ hk => hk) trivial (Below.refl _ _) (Nat.le_refl _) (by simp) ?_; (case hd => rfl); (case hg => rfl); (case hr => first | (go_simp; done) | (go_simp; rfl)); (case hp => exact (Reps.one (show Kd.M (Kd.int .u32) _ _ _ ((IntKind.u64.wrap (a0)) % 4294967296) [.int .u32 ((IntKind.u64.wrap (a0)) % 4294967296)] from rfl) (Reps.one (show Kd.M (Kd.int .u32) _ _ _ (((IntKind.u64.wrap (a0)) / 4294967296) % 4294967296) [.int .u32 (((IntKind.u64.wrap (a0)) / 4294967296) % 4294967296)] from rfl) (Reps.none _ _)))); intro v120 w13 ho14 hb hg_ hnew_; clear hg_ hnew_; (first | rw [← Ny119.out] at ho14 | (simp only [Int.reduceToNat] at ho14; rw [← Ny119.out] at ho14)); have HO121 := Aside0.mk (Kd.R_lower (Kd.R_newM (M := fun k_ => (w.heap.size ≤ k_)) ho14 (below_size (by with_reducible repeat first | exact HB.out | apply below_alloc | apply pw_below_drewN | apply below_drew1 | refine below_set ?_ GE111.out)) (fun k_ h_ => h_)) (below_size (by with_reducible repeat first | exact HB.out | apply below_alloc | apply pw_below_drewN | apply below_drew1 | refine below_set ?_ GE111.out))); replace BK111 := Aside0.mk (blk_below (blk_up BK111.out) hb); replace HB := Aside0.mk (below_step (by with_reducible repeat first | exact HB.out | apply below_alloc | apply pw_below_drewN | apply below_drew1 | refine below_set ?_ GE111.out) hb); clear hb ho14; obtain ⟨Ao15, co15, eo15⟩ := Kd.R_slice HO121.out; subst eo15) | ((with_reducible refine gate_callee (f := 45) rfl ?_); refine gl_ (some 18) Tryd.func45 #[.bool false, .slice Ao15 y119.length co15] ?_; (with_reducible refine (integer_signed.calls k false (fun k_ => some k_ = (.slice Ao15 y119.length co15 : Value).ownBlock) _ _ y119 t122 t123 _ ?side1 A11.out).mono ?_); (case side1 => exact Kd.R_V (Kd.R_tight rfl (Kd.R_types (HO121.out) BK111.out (by decide)))); rintro e w16 ⟨v124, rfl, ho0, hb⟩; refine ⟨_, rfl, ?_⟩; have n1_ := Aside0.mk (Kd.V_lower (Kd.V_mono (ok' := fun k_ => (w.heap.size ≤ k_) ∧ k_ ≠ gb111) ho0 (fun k_ hk_ => ⟨Or.elim hk_ (fun hs_ => ((Kd.R_types (HO121.out) BK111.out (by decide)).1 k_ hs_.symm).1.1) (fun hn_ => (Nat.le_trans (below_size (by with_reducible repeat first | exact HB.out | apply below_alloc | apply pw_below_drewN | apply below_drew1 | refine below_set ?_ GE111.out)) hn_)), Or.elim hk_ (fun hs_ => ((Kd.R_types (HO121.out) BK111.out (by decide)).1 k_ hs_.symm).2) (fun hn_ => (Kd.freshB (g := gb111) (o := .cells #[.bool false, .slice none 0 0] 25 (0, 0)) (blk_up BK111.out) k_ hn_))⟩)) (below_size (by with_reducible repeat first | exact HB.out | apply below_alloc | apply pw_below_drewN | apply below_drew1 | refine below_set ?_ GE111.out))); have n2_ := Aside0.mk (blk_below (blk_up BK111.out) hb); have n3_ := Aside0.mk (below_step (by with_reducible repeat first | exact HB.out | apply below_alloc | apply pw_below_drewN | apply below_drew1 | refine below_set ?_ GE111.out) hb); (try clear HO121); clear BK111 HB; have HO125 := n1_; have BK111 := n2_; have HB := n3_; clear n1_ n2_ n3_; (try clear hb); (try clear hb2); (try clear hk); (try clear hi); (try clear ho0); have hcz17_0 : w16.cell? ⟨gb111, 0, none⟩ = some (.bool false) := (blk_cell BK111.out 0).trans rfl; have hcz17_1 : w16.cell? ⟨gb111, 1, none⟩ = some (.slice none 0 0) := (blk_cell BK111.out 1).trans rfl; have hfz17_0 := blk_frozen BK111.out 0; have hfz17_1 := blk_frozen BK111.out 1; obtain ⟨Ao18, co18, eo18⟩ := Kd.V_slice HO125.out; subst eo18))
  refine bodyPost_ret (results_cell_row rfl _ _ gb111 25 #[.bool t122, .slice Ao18 t123.length co18] (0, 0) _ rfl (by refine blk_ups ?_; refine blk_put (cs := #[.bool t122, .slice none 0 0]) ?_ 1 _ rfl; refine blk_ups ?_; refine blk_put (cs := #[.bool false, .slice none 0 0]) ?_ 0 _ rfl; exact blk_up BK111.out) Tryd.underlying25 rfl (by kernel_rfl)) rfl ?_
  exact ⟨_, by first | rfl | (simp [errW_none, errW_some] <;> rfl) | (simp [*, errW_none, errW_some] <;> rfl), Kd.V_up (Kd.V_mono (Kd.V_far (p := ⟨gb111, 1, none⟩) (Kd.V_far (p := ⟨gb111, 0, none⟩) (Kd.V_mono HO125.out (fun k_ hk => (⟨hk, hk.2⟩ : _ ∧ k_ ≠ gb111))) (fun _ hk => hk.2) (.bool t122)) (fun _ hk => hk.2) (.slice Ao18 t123.length co18)) (fun _ hk => hk.1.1)), by with_reducible repeat first | exact HB.out | apply below_alloc | apply pw_below_drewN | apply below_drew1 | refine below_set ?_ GE111.out⟩
def integer_order.l0 : Nat → List Int → List Int → Int → Option (Int)
 | 0, _, _, _ => none
 | k + 1, x0, x1, x5 => if x5 ≥ 0 then (if 0 ≤ x5 then (if x5 < (x0.length : Int) then (if x5 < (x1.length : Int) then (if (rd x0 x5) = (rd x1 x5) then (integer_order.l0 k x0 x1 (wrap64 (x5 - 1))) else (if (rd x0 x5) < (rd x1 x5) then (some (-1)) else (some 1))) else (none)) else (none)) else (none)) else (some 0)
def integer_order.f (k : Nat) (l0 : List Int) (l1 : List Int) : Option (Int) := if (l0.length : Int) = (l1.length : Int) then (integer_order.l0 k l0 l1 (wrap64 ((l0.length : Int) - 1))) else (if (l0.length : Int) < (l1.length : Int) then (some (-1)) else (some 1))
theorem integer_order.mono_l : ∀ k, (∀ y0 y1 y2, LeO (integer_order.l0 k y0 y1 y2) (integer_order.l0 (k + 1) y0 y1 y2))
 | 0 => fun _ _ _ r h => by simp [integer_order.l0] at h
 | k + 1 => by
  have ih0 := integer_order.mono_l k
  ·
   intro y0 y1 y2
   unfold integer_order.l0
   repeat' with_reducible first | exact ih0 _ _ _ | exact LeO.refl _ | exact LeO.none _ | refine LeO.ite ?_ ?_ | refine LeO.bind ?_ (fun _ => ?_)
theorem integer_order.mono : ∀ a0 a1 k, LeO (integer_order.f k a0 a1) (integer_order.f (k + 1) a0 a1) := by
 intro a0 a1 k
 have ih0 := integer_order.mono_l k
 unfold integer_order.f
 repeat' with_reducible first | exact ih0 _ _ _ | exact LeO.refl _ | exact LeO.none _ | refine LeO.ite ?_ ?_ | refine LeO.bind ?_ (fun _ => ?_)
set_option maxHeartbeats 8000000 in
set_option maxRecDepth 100000 in
theorem integer_order.calls (k : Nat) (A0 : Option Addr) (c0 : Nat) (l0 : List Int) (A1 : Option Addr) (c1 : Nat) (l1 : List Int) (r : Int) (w : World) (hr0 : Kd.C (Kd.int .u32) w A0 l0.length l0) (hc0 : l0.length ≤ c0) (hr1 : Kd.C (Kd.int .u32) w A1 l1.length l1) (hc1 : l1.length ≤ c1) (h : integer_order.f k l0 l1 = some r) :
  Calls Tryd.prog 52 #[.slice A0 l0.length c0, .slice A1 l1.length c1] w fun e w' => e = .returned (.int .i64 r) ∧ Drawn0 w w' := by
 have HR0 := Aside0.mk hr0
 have HC0 := Aside0.mk hc0
 clear hr0 hc0
 have HR1 := Aside0.mk hr1
 have HC1 := Aside0.mk hc1
 clear hr1 hc1
 have H := h
 unfold integer_order.f at H
 clear h
 by_cases c3 : (l0.length : Int) = (l1.length : Int)
 ·
  rw [if_pos c3] at H
  have c3b0 : ((l0.length : Int) == (l1.length : Int)) = true := beq_iff_eq.mpr c3
  have c3b1 : ((l0.length : Int) != (l1.length : Int)) = false := bne_eq_false_iff_eq.mpr c3
  have c3b2 : (l0.length == l1.length) = true := by first | simpa using c3 | (simp at c3 ⊢; omega)
  clear c3
  have H' := Aside0.mk H
  clear H
  go_enter Tryd.func52, Tryd.ntmps52
  go_wp2
  repeat (go_quiet (fail); try go_wp2)
  go_loopg [5] k (fun kq v5 w' => ∃ (x5_1 : Int), v5 = .int .i64 x5_1 ∧ Aside0 (integer_order.l0 kq l0 l1 x5_1 = some r) ∧ Aside0 (kq ≤ k) ∧ Drawn0 w w')
  case atStart => exact ⟨(wrap64 ((l0.length : Int) - 1)), (by first | rfl | (simp; done) | (simp [*]; done) | (simp <;> omega)), H', ⟨Nat.le_refl _⟩, by repeat (first | exact Drawn0.refl _ | apply Drawn0.step)⟩
  case round =>
   clear H'
   obtain ⟨x5_1, rfl, HA, HK1, ⟨m1, rfl⟩⟩ := hrel
   cases gk with
   | zero => exact absurd HA.out (by simp [integer_order.l0])
   | succ k1 =>
    have H := HA.out
    clear HA
    simp only [integer_order.l0] at H
    by_cases c4 : x5_1 ≥ 0
    ·
     rw [if_pos c4] at H
     have c4b0 := decide_eq_true c4
     clear c4
     obtain ⟨c5, H⟩ := ite_some H
     have c5b0 := decide_eq_true c5
     clear c5
     obtain ⟨c6, H⟩ := ite_some H
     have c6b0 := decide_eq_true c6
     clear c6
     obtain ⟨c7, H⟩ := ite_some H
     have c7b0 := decide_eq_true c7
     clear c7
     by_cases c8 : (rd l0 x5_1) = (rd l1 x5_1)
     ·
      rw [if_pos c8] at H
      have c8b0 : ((rd l0 x5_1) == (rd l1 x5_1)) = true := beq_iff_eq.mpr c8
      have c8b1 : ((rd l0 x5_1) != (rd l1 x5_1)) = false := bne_eq_false_iff_eq.mpr c8
      clear c8
      have H' := Aside0.mk H
      clear H
      have p176 : 0 ≤ (x5_1 : Int) := of_decide_eq_true (by assumption)
      have q176 : x5_1 < (l0.length : Int) := of_decide_eq_true (by assumption)
      obtain ⟨ad176, e176, hx176_0⟩ := Kd.at_int HR0.out x5_1 p176 q176
      cases e176
      replace p176 := eq_true p176
      replace q176 := eq_true q176
      have p177 : 0 ≤ (x5_1 : Int) := of_decide_eq_true (by assumption)
      have q177 : x5_1 < (l1.length : Int) := of_decide_eq_true (by assumption)
      obtain ⟨ad177, e177, hx177_0⟩ := Kd.at_int HR1.out x5_1 p177 q177
      cases e177
      replace p177 := eq_true p177
      replace q177 := eq_true q177
      go_wp2
      repeat (go_quiet (fail); try go_wp2)
      go_roundg k1
      case measure => have := HK1.out; omega
      case rel => exact ⟨(wrap64 (x5_1 - 1)), (by first | rfl | (simp; done) | (simp [*]; done) | (simp <;> omega)), H', ⟨by have := HK1.out; omega⟩, by repeat (first | exact Drawn0.refl _ | apply Drawn0.step)⟩
     ·
      rw [if_neg c8] at H
      have c8b0 : ((rd l0 x5_1) == (rd l1 x5_1)) = false := beq_eq_false_iff_ne.mpr c8
      have c8b1 : ((rd l0 x5_1) != (rd l1 x5_1)) = true := bne_iff_ne.mpr c8
      by_cases c9 : (rd l0 x5_1) < (rd l1 x5_1)
      ·
       rw [if_pos c9] at H
       have c9b0 := decide_eq_true c9
       clear c9
       obtain rfl := Option.some.inj H
       have p176 : 0 ≤ (x5_1 : Int) := of_decide_eq_true (by assumption)
       have q176 : x5_1 < (l0.length : Int) := of_decide_eq_true (by assumption)
       obtain ⟨ad176, e176, hx176_0⟩ := Kd.at_int HR0.out x5_1 p176 q176
       cases e176
       replace p176 := eq_true p176
       replace q176 := eq_true q176
       have p177 : 0 ≤ (x5_1 : Int) := of_decide_eq_true (by assumption)
       have q177 : x5_1 < (l1.length : Int) := of_decide_eq_true (by assumption)
       obtain ⟨ad177, e177, hx177_0⟩ := Kd.at_int HR1.out x5_1 p177 q177
       cases e177
       replace p177 := eq_true p177
       replace q177 := eq_true q177
       have p178 : 0 ≤ (x5_1 : Int) := of_decide_eq_true (by assumption)
       have q178 : x5_1 < (l0.length : Int) := of_decide_eq_true (by assumption)
       obtain ⟨ad178, e178, hx178_0⟩ := Kd.at_int HR0.out x5_1 p178 q178
       obtain rfl : ad176 = ad178 := (by injection e178)
       replace p178 := eq_true p178
       replace q178 := eq_true q178
       have p179 : 0 ≤ (x5_1 : Int) := of_decide_eq_true (by assumption)
       have q179 : x5_1 < (l1.length : Int) := of_decide_eq_true (by assumption)
       obtain ⟨ad179, e179, hx179_0⟩ := Kd.at_int HR1.out x5_1 p179 q179
       obtain rfl : ad177 = ad179 := (by injection e179)
       replace p179 := eq_true p179
       replace q179 := eq_true q179
       go_wp2
       repeat (go_quiet (fail); try go_wp2)
       go_ret
       exact ⟨by first | rfl | (simp; done) | (simp [*]; done) | (simp <;> omega), by repeat (first | exact Drawn0.refl _ | apply Drawn0.step)⟩
      ·
       rw [if_neg c9] at H
       have c9b0 := decide_eq_false c9
       clear c9
       obtain rfl := Option.some.inj H
       have p176 : 0 ≤ (x5_1 : Int) := of_decide_eq_true (by assumption)
       have q176 : x5_1 < (l0.length : Int) := of_decide_eq_true (by assumption)
       obtain ⟨ad176, e176, hx176_0⟩ := Kd.at_int HR0.out x5_1 p176 q176
       cases e176
       replace p176 := eq_true p176
       replace q176 := eq_true q176
       have p177 : 0 ≤ (x5_1 : Int) := of_decide_eq_true (by assumption)
       have q177 : x5_1 < (l1.length : Int) := of_decide_eq_true (by assumption)
       obtain ⟨ad177, e177, hx177_0⟩ := Kd.at_int HR1.out x5_1 p177 q177
       cases e177
       replace p177 := eq_true p177
       replace q177 := eq_true q177
       have p178 : 0 ≤ (x5_1 : Int) := of_decide_eq_true (by assumption)
       have q178 : x5_1 < (l0.length : Int) := of_decide_eq_true (by assumption)
       obtain ⟨ad178, e178, hx178_0⟩ := Kd.at_int HR0.out x5_1 p178 q178
       obtain rfl : ad176 = ad178 := (by injection e178)
       replace p178 := eq_true p178
       replace q178 := eq_true q178
       have p179 : 0 ≤ (x5_1 : Int) := of_decide_eq_true (by assumption)
       have q179 : x5_1 < (l1.length : Int) := of_decide_eq_true (by assumption)
       obtain ⟨ad179, e179, hx179_0⟩ := Kd.at_int HR1.out x5_1 p179 q179
       obtain rfl : ad177 = ad179 := (by injection e179)
       replace p179 := eq_true p179
       replace q179 := eq_true q179
       go_wp2
       repeat (go_quiet (fail); try go_wp2)
       go_ret
       exact ⟨by first | rfl | (simp; done) | (simp [*]; done) | (simp <;> omega), by repeat (first | exact Drawn0.refl _ | apply Drawn0.step)⟩
    ·
     rw [if_neg c4] at H
     have c4b0 := decide_eq_false c4
     clear c4
     obtain rfl := Option.some.inj H
     go_wp2
     repeat (go_quiet (fail); try go_wp2)
     go_ret
     exact ⟨by first | rfl | (simp; done) | (simp [*]; done) | (simp <;> omega), by repeat (first | exact Drawn0.refl _ | apply Drawn0.step)⟩
 ·
  rw [if_neg c3] at H
  have c3b0 : ((l0.length : Int) == (l1.length : Int)) = false := beq_eq_false_iff_ne.mpr c3
  have c3b1 : ((l0.length : Int) != (l1.length : Int)) = true := bne_iff_ne.mpr c3
  have c3b2 : (l0.length == l1.length) = false := by first | simpa using c3 | (simp at c3 ⊢; omega)
  by_cases c10 : (l0.length : Int) < (l1.length : Int)
  ·
   rw [if_pos c10] at H
   have c10b0 := decide_eq_true c10
   have c10b1 : decide (l0.length < l1.length) = true := decide_eq_true (Int.ofNat_lt.mp c10)
   clear c10
   obtain rfl := Option.some.inj H
   go_enter Tryd.func52, Tryd.ntmps52
   go_wp2
   repeat (go_quiet (fail); try go_wp2)
   go_ret
   exact ⟨by first | rfl | (simp; done) | (simp [*]; done) | (simp <;> omega), by repeat (first | exact Drawn0.refl _ | apply Drawn0.step)⟩
  ·
   rw [if_neg c10] at H
   have c10b0 := decide_eq_false c10
   have c10b1 : decide (l0.length < l1.length) = false := decide_eq_false (fun h => c10 (Int.ofNat_lt.mpr h))
   clear c10
   obtain rfl := Option.some.inj H
   go_enter Tryd.func52, Tryd.ntmps52
   go_wp2
   repeat (go_quiet (fail); try go_wp2)
   go_ret
   exact ⟨by first | rfl | (simp; done) | (simp [*]; done) | (simp <;> omega), by repeat (first | exact Drawn0.refl _ | apply Drawn0.step)⟩
mutual
def integer_plus.l0 : Nat → List Int → List Int → List Int → Int → List Int → Int → Int → Option (List Int)
 | 0, _, _, _, _, _, _, _ => none
 | k + 1, x0, x1, x5, x6, x20, x21, x22 => if x22 < x21 then (if 0 ≤ x22 then (if x22 < (x20.length : Int) then (if x22 < (x1.length : Int) then (if x22 < (x5.length : Int) then (integer_plus.l0 k x0 x1 (x5.set (x22 : Int).toNat ((IntKind.u64.wrap ((IntKind.u64.wrap (x6 + (IntKind.u64.wrap (rd x20 x22)))) + (IntKind.u64.wrap (rd x1 x22)))) % 4294967296)) ((IntKind.u64.wrap ((IntKind.u64.wrap (x6 + (IntKind.u64.wrap (rd x20 x22)))) + (IntKind.u64.wrap (rd x1 x22)))) / 4294967296) x20 x21 (wrap64 (x22 + 1))) else (none)) else (if x22 < (x5.length : Int) then (integer_plus.l0 k x0 x1 (x5.set (x22 : Int).toNat ((IntKind.u64.wrap (x6 + (IntKind.u64.wrap (rd x20 x22)))) % 4294967296)) ((IntKind.u64.wrap (x6 + (IntKind.u64.wrap (rd x20 x22)))) / 4294967296) x20 x21 (wrap64 (x22 + 1))) else (none))) else (none)) else (none)) else (if 0 ≤ (x0.length : Int) then (if (x0.length : Int) < (x5.length : Int) then (some (x5.set ((x0.length : Int) : Int).toNat ((x6) % 4294967296))) else (none)) else (none))
def integer_plus.l1 : Nat → List Int → List Int → List Int → Int → List Int → Int → Int → Option (List Int)
 | 0, _, _, _, _, _, _, _ => none
 | k + 1, x0, x1, x5, x6, x20, x21, x22 => if x22 < x21 then (if 0 ≤ x22 then (if x22 < (x20.length : Int) then (if x22 < (x1.length : Int) then (if x22 < (x5.length : Int) then (integer_plus.l1 k x0 x1 (x5.set (x22 : Int).toNat ((IntKind.u64.wrap ((IntKind.u64.wrap (x6 + (IntKind.u64.wrap (rd x20 x22)))) + (IntKind.u64.wrap (rd x1 x22)))) % 4294967296)) ((IntKind.u64.wrap ((IntKind.u64.wrap (x6 + (IntKind.u64.wrap (rd x20 x22)))) + (IntKind.u64.wrap (rd x1 x22)))) / 4294967296) x20 x21 (wrap64 (x22 + 1))) else (none)) else (if x22 < (x5.length : Int) then (integer_plus.l1 k x0 x1 (x5.set (x22 : Int).toNat ((IntKind.u64.wrap (x6 + (IntKind.u64.wrap (rd x20 x22)))) % 4294967296)) ((IntKind.u64.wrap (x6 + (IntKind.u64.wrap (rd x20 x22)))) / 4294967296) x20 x21 (wrap64 (x22 + 1))) else (none))) else (none)) else (none)) else (if 0 ≤ (x0.length : Int) then (if (x0.length : Int) < (x5.length : Int) then (some (x5.set ((x0.length : Int) : Int).toNat ((x6) % 4294967296))) else (none)) else (none))
end
def integer_plus.f (k : Nat) (l0 : List Int) (l1 : List Int) : Option (List Int) := if (l0.length : Int) < (l1.length : Int) then (if 0 ≤ (wrap64 ((l1.length : Int) + 1)) then (if (wrap64 ((l1.length : Int) + 1) : Int).toNat ≤ 70368744177664 then (integer_plus.l0 k l1 l0 (List.replicate (wrap64 ((l1.length : Int) + 1) : Int).toNat 0) 0 l1 (l1.length : Int) 0) else (none)) else (none)) else (if 0 ≤ (wrap64 ((l0.length : Int) + 1)) then (if (wrap64 ((l0.length : Int) + 1) : Int).toNat ≤ 70368744177664 then (integer_plus.l1 k l0 l1 (List.replicate (wrap64 ((l0.length : Int) + 1) : Int).toNat 0) 0 l0 (l0.length : Int) 0) else (none)) else (none))
theorem integer_plus.mono_l : ∀ k, (∀ y0 y1 y2 y3 y4 y5 y6, LeO (integer_plus.l0 k y0 y1 y2 y3 y4 y5 y6) (integer_plus.l0 (k + 1) y0 y1 y2 y3 y4 y5 y6)) ∧ (∀ y0 y1 y2 y3 y4 y5 y6, LeO (integer_plus.l1 k y0 y1 y2 y3 y4 y5 y6) (integer_plus.l1 (k + 1) y0 y1 y2 y3 y4 y5 y6))
 | 0 => ⟨fun _ _ _ _ _ _ _ r h => by simp [integer_plus.l0] at h, fun _ _ _ _ _ _ _ r h => by simp [integer_plus.l1] at h⟩
 | k + 1 => by
  obtain ⟨ih0, ih1⟩ := integer_plus.mono_l k
  refine ⟨?_, ?_⟩
  ·
   intro y0 y1 y2 y3 y4 y5 y6
   unfold integer_plus.l0
   repeat' with_reducible first | exact ih0 _ _ _ _ _ _ _ | exact ih1 _ _ _ _ _ _ _ | exact LeO.refl _ | exact LeO.none _ | refine LeO.ite ?_ ?_ | refine LeO.bind ?_ (fun _ => ?_)
  ·
   intro y0 y1 y2 y3 y4 y5 y6
   unfold integer_plus.l1
   repeat' with_reducible first | exact ih0 _ _ _ _ _ _ _ | exact ih1 _ _ _ _ _ _ _ | exact LeO.refl _ | exact LeO.none _ | refine LeO.ite ?_ ?_ | refine LeO.bind ?_ (fun _ => ?_)
theorem integer_plus.mono : ∀ a0 a1 k, LeO (integer_plus.f k a0 a1) (integer_plus.f (k + 1) a0 a1) := by
 intro a0 a1 k
 obtain ⟨ih0, ih1⟩ := integer_plus.mono_l k
 unfold integer_plus.f
 repeat' with_reducible first | exact ih0 _ _ _ _ _ _ _ | exact ih1 _ _ _ _ _ _ _ | exact LeO.refl _ | exact LeO.none _ | refine LeO.ite ?_ ?_ | refine LeO.bind ?_ (fun _ => ?_)
set_option maxHeartbeats 8000000 in
set_option maxRecDepth 100000 in
theorem integer_plus.calls (k : Nat) (A0 : Option Addr) (c0 : Nat) (l0 : List Int) (A1 : Option Addr) (c1 : Nat) (l1 : List Int) (r : List Int) (w : World) (hr0 : Kd.C (Kd.int .u32) w A0 l0.length l0) (hc0 : l0.length ≤ c0) (hr1 : Kd.C (Kd.int .u32) w A1 l1.length l1) (hc1 : l1.length ≤ c1) (h : integer_plus.f k l0 l1 = some r) :
  Calls Tryd.prog 63 #[.slice A0 l0.length c0, .slice A1 l1.length c1] w fun e w' => ∃ v0_ : Value, e = .returned (v0_) ∧ Kd.R (Kd.int .u32) 60 w' w.heap.size (fun _ => True) v0_ r ∧ Below w.heap.size w w' := by
 have HR0 := Aside0.mk hr0
 have HC0 := Aside0.mk hc0
 clear hr0 hc0
 have HR1 := Aside0.mk hr1
 have HC1 := Aside0.mk hc1
 clear hr1 hc1
 have HB := Aside0.mk (Below.refl w.heap.size w)
 have H := h
 unfold integer_plus.f at H
 clear h
 by_cases c3 : (l0.length : Int) < (l1.length : Int)
 ·
  rw [if_pos c3] at H
  have c3b0 := decide_eq_true c3
  have c3b1 : decide (l0.length < l1.length) = true := decide_eq_true (Int.ofNat_lt.mp c3)
  clear c3
  obtain ⟨ji4, hji4⟩ : ∃ j_ : Int, (wrap64 ((l1.length : Int) + 1)) = j_ := ⟨_, rfl⟩
  replace H : (if 0 ≤ (ji4) then (if (ji4 : Int).toNat ≤ 70368744177664 then (integer_plus.l0 k l1 l0 (List.replicate (ji4 : Int).toNat 0) 0 l1 (l1.length : Int) 0) else (none)) else (none)) = some r := by first | (rw [hji4] at H; exact H) | (simp only [hji4] at H ⊢; exact H)
  have hji4w : (IntKind.i64.wrap ((l1.length : Int) + 1)) = ji4 := (i64_w _).trans hji4
  obtain ⟨c5, H⟩ := ite_some H
  have c5b0 := eq_true c5
  have c5b1 := decide_eq_true c5
  clear c5
  obtain ⟨c6, H⟩ := ite_some H
  have c6b0 := eq_true c6
  have c6b1 := decide_eq_true c6
  clear c6
  obtain ⟨y180, hy180⟩ : ∃ y_ : List Int, y_ = (List.replicate (ji4 : Int).toNat 0) := ⟨_, rfl⟩
  replace H : (integer_plus.l0 k l1 l0 y180 0 l1 (l1.length : Int) 0) = some r := by first | (rw [hy180]; exact H) | exact H
  have Ny180 := Aside0.mk hy180
  clear hy180
  have H' := Aside0.mk H
  clear H
  go_enter Tryd.func63, Tryd.ntmps63
  go_wp2_with (first | ((with_reducible refine gate_dst (N := 19) rfl ?_); refine Kd.R_make (Kd.int .u32) _ 60 rfl (N := 19) rfl 23 _ _ rfl ji4 rfl rfl Tryd.underlying23 (.int .u32 0) 4 info60 rfl (by decide) (by omega) 0 (ok := fun _ => True) (okp := fun _ => True) rfl (fun _ hk => hk) trivial (of_decide_eq_true (by assumption)) (Nat.le_trans (Nat.mul_le_mul_right _ (of_decide_eq_true (by assumption) : ji4.toNat ≤ 70368744177664)) (by omega)) (Below.refl _ _) (Nat.le_refl _) ?_; intro v181 w7 ho8 hb hg_ hnew_; clear hg_ hnew_; (first | rw [← Ny180.out] at ho8 | (simp only [Int.reduceToNat] at ho8; rw [← Ny180.out] at ho8)); have HO182 := Aside0.mk (Kd.R_lower ho8 (below_size (below_up HB.out))); replace HB := Aside0.mk (below_step (below_up HB.out) hb); clear hb ho8))
  go_loopg [6, 22] k (fun kq v6 v22 w' => ∃ (x5_1 : List Int) (x6_1 : Int) (x22_1 : Int), v6 = .int .u64 x6_1 ∧ v22 = .int .i64 x22_1 ∧ Aside0 (integer_plus.l0 kq l1 l0 x5_1 x6_1 l1 (l1.length : Int) x22_1 = some r) ∧ Aside0 (kq ≤ k) ∧ Aside0 (Kd.R (Kd.int .u32) 60 w' w.heap.size (fun _ => True) v181 x5_1) ∧ Aside0 (Below w.heap.size w w'))
  case atStart => exact ⟨(y180), (0), (0), (by first | rfl | (simp; done) | (simp [*]; done) | (simp <;> omega)), (by first | rfl | (simp; done) | (simp [*]; done) | (simp <;> omega)), H', ⟨Nat.le_refl _⟩, ⟨Kd.R_up HO182.out⟩, ⟨below_up HB.out⟩⟩
  case round =>
   clear H'
   obtain ⟨x5_1, x6_1, x22_1, rfl, rfl, HA, HK1, HO_5, HB⟩ := hrel
   cases gk with
   | zero => exact absurd HA.out (by simp [integer_plus.l0])
   | succ k1 =>
    have H := HA.out
    clear HA
    simp only [integer_plus.l0] at H
    by_cases c9 : x22_1 < (l1.length : Int)
    ·
     rw [if_pos c9] at H
     have c9b0 := decide_eq_true c9
     clear c9
     obtain ⟨c10, H⟩ := ite_some H
     have c10b0 := decide_eq_true c10
     clear c10
     obtain ⟨c11, H⟩ := ite_some H
     have c11b0 := decide_eq_true c11
     clear c11
     by_cases c12 : x22_1 < (l0.length : Int)
     ·
      rw [if_pos c12] at H
      have c12b0 := decide_eq_true c12
      clear c12
      obtain ⟨c13, H⟩ := ite_some H
      have c13b0 := decide_eq_true c13
      clear c13
      obtain ⟨y185, hy185⟩ : ∃ y_ : List Int, y_ = (x5_1.set (x22_1 : Int).toNat ((IntKind.u64.wrap ((IntKind.u64.wrap (x6_1 + (IntKind.u64.wrap (rd l1 x22_1)))) + (IntKind.u64.wrap (rd l0 x22_1)))) % 4294967296)) := ⟨_, rfl⟩
      replace H : (integer_plus.l0 k1 l1 l0 y185 ((IntKind.u64.wrap ((IntKind.u64.wrap (x6_1 + (IntKind.u64.wrap (rd l1 x22_1)))) + (IntKind.u64.wrap (rd l0 x22_1)))) / 4294967296) l1 (l1.length : Int) (wrap64 (x22_1 + 1))) = some r := by first | (rw [hy185]; exact H) | exact H
      have Ny185 := Aside0.mk hy185
      clear hy185
      have H' := Aside0.mk H
      clear H
      have p183 : 0 ≤ (x22_1 : Int) := of_decide_eq_true (by assumption)
      have q183 : x22_1 < (l1.length : Int) := of_decide_eq_true (by assumption)
      obtain ⟨ad183, e183, hx183_0⟩ := Kd.at_int HR1.out x22_1 p183 q183
      cases e183
      replace hx183_0 := (HB.out.cell (World.block_lt_of_cell? w _ hx183_0)).trans hx183_0
      replace p183 := eq_true p183
      replace q183 := eq_true q183
      have p184 : 0 ≤ (x22_1 : Int) := of_decide_eq_true (by assumption)
      have q184 : x22_1 < (l0.length : Int) := of_decide_eq_true (by assumption)
      obtain ⟨ad184, e184, hx184_0⟩ := Kd.at_int HR0.out x22_1 p184 q184
      cases e184
      replace hx184_0 := (HB.out.cell (World.block_lt_of_cell? w _ hx184_0)).trans hx184_0
      replace p184 := eq_true p184
      replace q184 := eq_true q184
      have p14 : 0 ≤ (x22_1 : Int) := of_decide_eq_true (by assumption)
      have q14 : (x22_1 : Int) < ((x5_1.length : Int) : Int) := of_decide_eq_true (by assumption)
      obtain ⟨go14, co14, eo14, gb14, gl14, cl14, HG14⟩ := Kd.R_form HO_5.out (by omega)
      (first | cases eo14 | (injection eo14 with ea_ en_ ec_; (first | subst ea_ | (injection ea_ with ea_; subst ea_)); subst ec_; clear en_))
      have GB14 := Aside0.mk gb14
      have GG14 := Aside0.mk HG14
      clear gb14 gl14 HG14
      obtain ⟨hx14_0, hf14_0⟩ := Kd.R_celln 0 HO_5.out (x22_1 : Int) p14 q14
      replace p14 := eq_true p14
      replace q14 := eq_true q14
      have HP15 := Kd.R_putg HO_5.out (x22_1 : Int) ((IntKind.u64.wrap ((IntKind.u64.wrap (x6_1 + (IntKind.u64.wrap (rd l1 x22_1)))) + (IntKind.u64.wrap (rd l0 x22_1)))) % 4294967296)
      go_wp2_with (first | ((with_reducible refine gate_store (t := 60) (p := 46) rfl ?_); refine store_event (t := 60) (p := 46) (v := ?vo_w16) (w1 := (wr.setCell ⟨go14, (x22_1 : Int).toNat, none⟩ (.int .u32 ((IntKind.u64.wrap ((IntKind.u64.wrap (x6_1 + (IntKind.u64.wrap (rd l1 x22_1)))) + (IntKind.u64.wrap (rd l0 x22_1)))) % 4294967296)))) ?hg ?ho ?hn ?hr ?_; (case ho => rfl); (case hg => rfl); (case hn => rfl); (case hr => first | (go_simp; done) | (go_simp; rfl)); intro w16 hw; have hg : wr.grownBy w16 (some go14) := (by rw [hw]; exact HP15.2); have hp_ : Kd.R (Kd.int .u32) 60 w16 w.heap.size (fun _ => True) (.slice (some ⟨go14, 0, none⟩) x5_1.length co14) y185 := (by rw [hw, Ny185.out]; exact HP15.1); clear HP15; replace HO_5 := Aside0.mk (hp_); replace HB := Aside0.mk ((by rw [hw]; exact below_set (HB.out) GB14.out : Below w.heap.size w w16)); clear hg hw hp_))
      go_roundg k1
      case measure => have := HK1.out; omega
      case rel => exact ⟨(y185), ((IntKind.u64.wrap ((IntKind.u64.wrap (x6_1 + (IntKind.u64.wrap (rd l1 x22_1)))) + (IntKind.u64.wrap (rd l0 x22_1)))) / 4294967296), (wrap64 (x22_1 + 1)), (by first | rfl | (simp; done) | (simp [*]; done) | (simp <;> omega)), (by first | rfl | (simp; done) | (simp [*]; done) | (simp <;> omega)), H', ⟨by have := HK1.out; omega⟩, ⟨Kd.R_up HO_5.out⟩, ⟨below_up HB.out⟩⟩
     ·
      rw [if_neg c12] at H
      have c12b0 := decide_eq_false c12
      clear c12
      obtain ⟨c17, H⟩ := ite_some H
      have c17b0 := decide_eq_true c17
      clear c17
      obtain ⟨y186, hy186⟩ : ∃ y_ : List Int, y_ = (x5_1.set (x22_1 : Int).toNat ((IntKind.u64.wrap (x6_1 + (IntKind.u64.wrap (rd l1 x22_1)))) % 4294967296)) := ⟨_, rfl⟩
      replace H : (integer_plus.l0 k1 l1 l0 y186 ((IntKind.u64.wrap (x6_1 + (IntKind.u64.wrap (rd l1 x22_1)))) / 4294967296) l1 (l1.length : Int) (wrap64 (x22_1 + 1))) = some r := by first | (rw [hy186]; exact H) | exact H
      have Ny186 := Aside0.mk hy186
      clear hy186
      have H' := Aside0.mk H
      clear H
      have p183 : 0 ≤ (x22_1 : Int) := of_decide_eq_true (by assumption)
      have q183 : x22_1 < (l1.length : Int) := of_decide_eq_true (by assumption)
      obtain ⟨ad183, e183, hx183_0⟩ := Kd.at_int HR1.out x22_1 p183 q183
      cases e183
      replace hx183_0 := (HB.out.cell (World.block_lt_of_cell? w _ hx183_0)).trans hx183_0
      replace p183 := eq_true p183
      replace q183 := eq_true q183
      have p18 : 0 ≤ (x22_1 : Int) := of_decide_eq_true (by assumption)
      have q18 : (x22_1 : Int) < ((x5_1.length : Int) : Int) := of_decide_eq_true (by assumption)
      obtain ⟨go18, co18, eo18, gb18, gl18, cl18, HG18⟩ := Kd.R_form HO_5.out (by omega)
      (first | cases eo18 | (injection eo18 with ea_ en_ ec_; (first | subst ea_ | (injection ea_ with ea_; subst ea_)); subst ec_; clear en_))
      have GB18 := Aside0.mk gb18
      have GG18 := Aside0.mk HG18
      clear gb18 gl18 HG18
      obtain ⟨hx18_0, hf18_0⟩ := Kd.R_celln 0 HO_5.out (x22_1 : Int) p18 q18
      replace p18 := eq_true p18
      replace q18 := eq_true q18
      have HP19 := Kd.R_putg HO_5.out (x22_1 : Int) ((IntKind.u64.wrap (x6_1 + (IntKind.u64.wrap (rd l1 x22_1)))) % 4294967296)
      go_wp2_with (first | ((with_reducible refine gate_store (t := 60) (p := 46) rfl ?_); refine store_event (t := 60) (p := 46) (v := ?vo_w20) (w1 := (wr.setCell ⟨go18, (x22_1 : Int).toNat, none⟩ (.int .u32 ((IntKind.u64.wrap (x6_1 + (IntKind.u64.wrap (rd l1 x22_1)))) % 4294967296)))) ?hg ?ho ?hn ?hr ?_; (case ho => rfl); (case hg => rfl); (case hn => rfl); (case hr => first | (go_simp; done) | (go_simp; rfl)); intro w20 hw; have hg : wr.grownBy w20 (some go18) := (by rw [hw]; exact HP19.2); have hp_ : Kd.R (Kd.int .u32) 60 w20 w.heap.size (fun _ => True) (.slice (some ⟨go18, 0, none⟩) x5_1.length co18) y186 := (by rw [hw, Ny186.out]; exact HP19.1); clear HP19; replace HO_5 := Aside0.mk (hp_); replace HB := Aside0.mk ((by rw [hw]; exact below_set (HB.out) GB18.out : Below w.heap.size w w20)); clear hg hw hp_))
      go_roundg k1
      case measure => have := HK1.out; omega
      case rel => exact ⟨(y186), ((IntKind.u64.wrap (x6_1 + (IntKind.u64.wrap (rd l1 x22_1)))) / 4294967296), (wrap64 (x22_1 + 1)), (by first | rfl | (simp; done) | (simp [*]; done) | (simp <;> omega)), (by first | rfl | (simp; done) | (simp [*]; done) | (simp <;> omega)), H', ⟨by have := HK1.out; omega⟩, ⟨Kd.R_up HO_5.out⟩, ⟨below_up HB.out⟩⟩
    ·
     rw [if_neg c9] at H
     have c9b0 := decide_eq_false c9
     clear c9
     obtain ⟨c21, H⟩ := ite_some H
     have c21b0 := decide_eq_true c21
     have c21b1 : decide (0 ≤ l1.length) = true := decide_eq_true (by omega)
     clear c21
     obtain ⟨c22, H⟩ := ite_some H
     have c22b0 := decide_eq_true c22
     have c22b1 : decide (l1.length < x5_1.length) = true := decide_eq_true (Int.ofNat_lt.mp c22)
     clear c22
     obtain ⟨y187, hy187⟩ : ∃ y_ : List Int, y_ = (x5_1.set ((l1.length : Int) : Int).toNat ((x6_1) % 4294967296)) := ⟨_, rfl⟩
     replace H : (some y187) = some r := by first | (rw [hy187]; exact H) | exact H
     have Ny187 := Aside0.mk hy187
     clear hy187
     obtain rfl := Option.some.inj H
     have p23 : 0 ≤ ((l1.length : Int) : Int) := of_decide_eq_true (by assumption)
     have q23 : ((l1.length : Int) : Int) < ((x5_1.length : Int) : Int) := of_decide_eq_true (by assumption)
     obtain ⟨go23, co23, eo23, gb23, gl23, cl23, HG23⟩ := Kd.R_form HO_5.out (by omega)
     (first | cases eo23 | (injection eo23 with ea_ en_ ec_; (first | subst ea_ | (injection ea_ with ea_; subst ea_)); subst ec_; clear en_))
     have GB23 := Aside0.mk gb23
     have GG23 := Aside0.mk HG23
     clear gb23 gl23 HG23
     obtain ⟨hx23_0, hf23_0⟩ := Kd.R_celln 0 HO_5.out ((l1.length : Int) : Int) p23 q23
     (try simp only [Go.IntWalk.toNatUp] at hx23_0 hf23_0)
     replace p23 := eq_true p23
     replace q23 := eq_true q23
     have HP24 := Kd.R_putg HO_5.out ((l1.length : Int) : Int) ((x6_1) % 4294967296)
     go_wp2_with (first | ((with_reducible refine gate_store (t := 60) (p := 55) rfl ?_); refine store_event (t := 60) (p := 55) (v := ?vo_w25) (w1 := (wr.setCell ⟨go23, ((l1.length : Int) : Int).toNat, none⟩ (.int .u32 ((x6_1) % 4294967296)))) ?hg ?ho ?hn ?hr ?_; (case ho => rfl); (case hg => rfl); (case hn => rfl); (case hr => first | (go_simp; done) | (go_simp; rfl)); intro w25 hw; have hg : wr.grownBy w25 (some go23) := (by rw [hw]; exact HP24.2); have hp_ : Kd.R (Kd.int .u32) 60 w25 w.heap.size (fun _ => True) (.slice (some ⟨go23, 0, none⟩) x5_1.length co23) y187 := (by rw [hw, Ny187.out]; exact HP24.1); clear HP24; replace HO_5 := Aside0.mk (hp_); replace HB := Aside0.mk ((by rw [hw]; exact below_set (HB.out) GB23.out : Below w.heap.size w w25)); clear hg hw hp_))
     go_ret
     exact ⟨_, by first | rfl | (simp [errW_none, errW_some] <;> rfl) | (simp only [← hji4]; first | rfl | (simp [errW_none, errW_some] <;> rfl)) | (simp [*, errW_none, errW_some] <;> rfl), Kd.R_up HO_5.out, below_up HB.out⟩
 ·
  rw [if_neg c3] at H
  have c3b0 := decide_eq_false c3
  have c3b1 : decide (l0.length < l1.length) = false := decide_eq_false (fun h => c3 (Int.ofNat_lt.mpr h))
  clear c3
  obtain ⟨ji26, hji26⟩ : ∃ j_ : Int, (wrap64 ((l0.length : Int) + 1)) = j_ := ⟨_, rfl⟩
  replace H : (if 0 ≤ (ji26) then (if (ji26 : Int).toNat ≤ 70368744177664 then (integer_plus.l1 k l0 l1 (List.replicate (ji26 : Int).toNat 0) 0 l0 (l0.length : Int) 0) else (none)) else (none)) = some r := by first | (rw [hji26] at H; exact H) | (simp only [hji26] at H ⊢; exact H)
  have hji26w : (IntKind.i64.wrap ((l0.length : Int) + 1)) = ji26 := (i64_w _).trans hji26
  by_cases c27 : 0 ≤ (ji26)
  ·
   rw [if_pos c27] at H
   have c27b0 := eq_true c27
   have c27b1 := decide_eq_true c27
   clear c27
   obtain ⟨c28, H⟩ := ite_some H
   have c28b0 := eq_true c28
   have c28b1 := decide_eq_true c28
   clear c28
   obtain ⟨y188, hy188⟩ : ∃ y_ : List Int, y_ = (List.replicate (ji26 : Int).toNat 0) := ⟨_, rfl⟩
   replace H : (integer_plus.l1 k l0 l1 y188 0 l0 (l0.length : Int) 0) = some r := by first | (rw [hy188]; exact H) | exact H
   have Ny188 := Aside0.mk hy188
   clear hy188
   have H' := Aside0.mk H
   clear H
   go_enter Tryd.func63, Tryd.ntmps63
   go_wp2_with (first | ((with_reducible refine gate_dst (N := 19) rfl ?_); refine Kd.R_make (Kd.int .u32) _ 60 rfl (N := 19) rfl 23 _ _ rfl ji26 rfl rfl Tryd.underlying23 (.int .u32 0) 4 info60 rfl (by decide) (by omega) 0 (ok := fun _ => True) (okp := fun _ => True) rfl (fun _ hk => hk) trivial (of_decide_eq_true (by assumption)) (Nat.le_trans (Nat.mul_le_mul_right _ (of_decide_eq_true (by assumption) : ji26.toNat ≤ 70368744177664)) (by omega)) (Below.refl _ _) (Nat.le_refl _) ?_; intro v189 w29 ho30 hb hg_ hnew_; clear hg_ hnew_; (first | rw [← Ny188.out] at ho30 | (simp only [Int.reduceToNat] at ho30; rw [← Ny188.out] at ho30)); have HO190 := Aside0.mk (Kd.R_lower ho30 (below_size (below_up HB.out))); replace HB := Aside0.mk (below_step (below_up HB.out) hb); clear hb ho30))
   go_loopg [6, 22] k (fun kq v6 v22 w' => ∃ (x5_1 : List Int) (x6_1 : Int) (x22_1 : Int), v6 = .int .u64 x6_1 ∧ v22 = .int .i64 x22_1 ∧ Aside0 (integer_plus.l1 kq l0 l1 x5_1 x6_1 l0 (l0.length : Int) x22_1 = some r) ∧ Aside0 (kq ≤ k) ∧ Aside0 (Kd.R (Kd.int .u32) 60 w' w.heap.size (fun _ => True) v189 x5_1) ∧ Aside0 (Below w.heap.size w w'))
   case atStart => exact ⟨(y188), (0), (0), (by first | rfl | (simp; done) | (simp [*]; done) | (simp <;> omega)), (by first | rfl | (simp; done) | (simp [*]; done) | (simp <;> omega)), H', ⟨Nat.le_refl _⟩, ⟨Kd.R_up HO190.out⟩, ⟨below_up HB.out⟩⟩
   case round =>
    clear H'
    obtain ⟨x5_1, x6_1, x22_1, rfl, rfl, HA, HK1, HO_5, HB⟩ := hrel
    cases gk with
    | zero => exact absurd HA.out (by simp [integer_plus.l1])
    | succ k1 =>
     have H := HA.out
     clear HA
     simp only [integer_plus.l1] at H
     by_cases c31 : x22_1 < (l0.length : Int)
     ·
      rw [if_pos c31] at H
      have c31b0 := decide_eq_true c31
      clear c31
      obtain ⟨c32, H⟩ := ite_some H
      have c32b0 := decide_eq_true c32
      clear c32
      obtain ⟨c33, H⟩ := ite_some H
      have c33b0 := decide_eq_true c33
      clear c33
      by_cases c34 : x22_1 < (l1.length : Int)
      ·
       rw [if_pos c34] at H
       have c34b0 := decide_eq_true c34
       clear c34
       obtain ⟨c35, H⟩ := ite_some H
       have c35b0 := decide_eq_true c35
       clear c35
       obtain ⟨y193, hy193⟩ : ∃ y_ : List Int, y_ = (x5_1.set (x22_1 : Int).toNat ((IntKind.u64.wrap ((IntKind.u64.wrap (x6_1 + (IntKind.u64.wrap (rd l0 x22_1)))) + (IntKind.u64.wrap (rd l1 x22_1)))) % 4294967296)) := ⟨_, rfl⟩
       replace H : (integer_plus.l1 k1 l0 l1 y193 ((IntKind.u64.wrap ((IntKind.u64.wrap (x6_1 + (IntKind.u64.wrap (rd l0 x22_1)))) + (IntKind.u64.wrap (rd l1 x22_1)))) / 4294967296) l0 (l0.length : Int) (wrap64 (x22_1 + 1))) = some r := by first | (rw [hy193]; exact H) | exact H
       have Ny193 := Aside0.mk hy193
       clear hy193
       have H' := Aside0.mk H
       clear H
       have p191 : 0 ≤ (x22_1 : Int) := of_decide_eq_true (by assumption)
       have q191 : x22_1 < (l0.length : Int) := of_decide_eq_true (by assumption)
       obtain ⟨ad191, e191, hx191_0⟩ := Kd.at_int HR0.out x22_1 p191 q191
       cases e191
       replace hx191_0 := (HB.out.cell (World.block_lt_of_cell? w _ hx191_0)).trans hx191_0
       replace p191 := eq_true p191
       replace q191 := eq_true q191
       have p192 : 0 ≤ (x22_1 : Int) := of_decide_eq_true (by assumption)
       have q192 : x22_1 < (l1.length : Int) := of_decide_eq_true (by assumption)
       obtain ⟨ad192, e192, hx192_0⟩ := Kd.at_int HR1.out x22_1 p192 q192
       cases e192
       replace hx192_0 := (HB.out.cell (World.block_lt_of_cell? w _ hx192_0)).trans hx192_0
       replace p192 := eq_true p192
       replace q192 := eq_true q192
       have p36 : 0 ≤ (x22_1 : Int) := of_decide_eq_true (by assumption)
       have q36 : (x22_1 : Int) < ((x5_1.length : Int) : Int) := of_decide_eq_true (by assumption)
       obtain ⟨go36, co36, eo36, gb36, gl36, cl36, HG36⟩ := Kd.R_form HO_5.out (by omega)
       (first | cases eo36 | (injection eo36 with ea_ en_ ec_; (first | subst ea_ | (injection ea_ with ea_; subst ea_)); subst ec_; clear en_))
       have GB36 := Aside0.mk gb36
       have GG36 := Aside0.mk HG36
       clear gb36 gl36 HG36
       obtain ⟨hx36_0, hf36_0⟩ := Kd.R_celln 0 HO_5.out (x22_1 : Int) p36 q36
       replace p36 := eq_true p36
       replace q36 := eq_true q36
       have HP37 := Kd.R_putg HO_5.out (x22_1 : Int) ((IntKind.u64.wrap ((IntKind.u64.wrap (x6_1 + (IntKind.u64.wrap (rd l0 x22_1)))) + (IntKind.u64.wrap (rd l1 x22_1)))) % 4294967296)
       go_wp2_with (first | ((with_reducible refine gate_store (t := 60) (p := 46) rfl ?_); refine store_event (t := 60) (p := 46) (v := ?vo_w38) (w1 := (wr.setCell ⟨go36, (x22_1 : Int).toNat, none⟩ (.int .u32 ((IntKind.u64.wrap ((IntKind.u64.wrap (x6_1 + (IntKind.u64.wrap (rd l0 x22_1)))) + (IntKind.u64.wrap (rd l1 x22_1)))) % 4294967296)))) ?hg ?ho ?hn ?hr ?_; (case ho => rfl); (case hg => rfl); (case hn => rfl); (case hr => first | (go_simp; done) | (go_simp; rfl)); intro w38 hw; have hg : wr.grownBy w38 (some go36) := (by rw [hw]; exact HP37.2); have hp_ : Kd.R (Kd.int .u32) 60 w38 w.heap.size (fun _ => True) (.slice (some ⟨go36, 0, none⟩) x5_1.length co36) y193 := (by rw [hw, Ny193.out]; exact HP37.1); clear HP37; replace HO_5 := Aside0.mk (hp_); replace HB := Aside0.mk ((by rw [hw]; exact below_set (HB.out) GB36.out : Below w.heap.size w w38)); clear hg hw hp_))
       go_roundg k1
       case measure => have := HK1.out; omega
       case rel => exact ⟨(y193), ((IntKind.u64.wrap ((IntKind.u64.wrap (x6_1 + (IntKind.u64.wrap (rd l0 x22_1)))) + (IntKind.u64.wrap (rd l1 x22_1)))) / 4294967296), (wrap64 (x22_1 + 1)), (by first | rfl | (simp; done) | (simp [*]; done) | (simp <;> omega)), (by first | rfl | (simp; done) | (simp [*]; done) | (simp <;> omega)), H', ⟨by have := HK1.out; omega⟩, ⟨Kd.R_up HO_5.out⟩, ⟨below_up HB.out⟩⟩
      ·
       rw [if_neg c34] at H
       have c34b0 := decide_eq_false c34
       clear c34
       obtain ⟨c39, H⟩ := ite_some H
       have c39b0 := decide_eq_true c39
       clear c39
       obtain ⟨y194, hy194⟩ : ∃ y_ : List Int, y_ = (x5_1.set (x22_1 : Int).toNat ((IntKind.u64.wrap (x6_1 + (IntKind.u64.wrap (rd l0 x22_1)))) % 4294967296)) := ⟨_, rfl⟩
       replace H : (integer_plus.l1 k1 l0 l1 y194 ((IntKind.u64.wrap (x6_1 + (IntKind.u64.wrap (rd l0 x22_1)))) / 4294967296) l0 (l0.length : Int) (wrap64 (x22_1 + 1))) = some r := by first | (rw [hy194]; exact H) | exact H
       have Ny194 := Aside0.mk hy194
       clear hy194
       have H' := Aside0.mk H
       clear H
       have p191 : 0 ≤ (x22_1 : Int) := of_decide_eq_true (by assumption)
       have q191 : x22_1 < (l0.length : Int) := of_decide_eq_true (by assumption)
       obtain ⟨ad191, e191, hx191_0⟩ := Kd.at_int HR0.out x22_1 p191 q191
       cases e191
       replace hx191_0 := (HB.out.cell (World.block_lt_of_cell? w _ hx191_0)).trans hx191_0
       replace p191 := eq_true p191
       replace q191 := eq_true q191
       have p40 : 0 ≤ (x22_1 : Int) := of_decide_eq_true (by assumption)
       have q40 : (x22_1 : Int) < ((x5_1.length : Int) : Int) := of_decide_eq_true (by assumption)
       obtain ⟨go40, co40, eo40, gb40, gl40, cl40, HG40⟩ := Kd.R_form HO_5.out (by omega)
       (first | cases eo40 | (injection eo40 with ea_ en_ ec_; (first | subst ea_ | (injection ea_ with ea_; subst ea_)); subst ec_; clear en_))
       have GB40 := Aside0.mk gb40
       have GG40 := Aside0.mk HG40
       clear gb40 gl40 HG40
       obtain ⟨hx40_0, hf40_0⟩ := Kd.R_celln 0 HO_5.out (x22_1 : Int) p40 q40
       replace p40 := eq_true p40
       replace q40 := eq_true q40
       have HP41 := Kd.R_putg HO_5.out (x22_1 : Int) ((IntKind.u64.wrap (x6_1 + (IntKind.u64.wrap (rd l0 x22_1)))) % 4294967296)
       go_wp2_with (first | ((with_reducible refine gate_store (t := 60) (p := 46) rfl ?_); refine store_event (t := 60) (p := 46) (v := ?vo_w42) (w1 := (wr.setCell ⟨go40, (x22_1 : Int).toNat, none⟩ (.int .u32 ((IntKind.u64.wrap (x6_1 + (IntKind.u64.wrap (rd l0 x22_1)))) % 4294967296)))) ?hg ?ho ?hn ?hr ?_; (case ho => rfl); (case hg => rfl); (case hn => rfl); (case hr => first | (go_simp; done) | (go_simp; rfl)); intro w42 hw; have hg : wr.grownBy w42 (some go40) := (by rw [hw]; exact HP41.2); have hp_ : Kd.R (Kd.int .u32) 60 w42 w.heap.size (fun _ => True) (.slice (some ⟨go40, 0, none⟩) x5_1.length co40) y194 := (by rw [hw, Ny194.out]; exact HP41.1); clear HP41; replace HO_5 := Aside0.mk (hp_); replace HB := Aside0.mk ((by rw [hw]; exact below_set (HB.out) GB40.out : Below w.heap.size w w42)); clear hg hw hp_))
       go_roundg k1
       case measure => have := HK1.out; omega
       case rel => exact ⟨(y194), ((IntKind.u64.wrap (x6_1 + (IntKind.u64.wrap (rd l0 x22_1)))) / 4294967296), (wrap64 (x22_1 + 1)), (by first | rfl | (simp; done) | (simp [*]; done) | (simp <;> omega)), (by first | rfl | (simp; done) | (simp [*]; done) | (simp <;> omega)), H', ⟨by have := HK1.out; omega⟩, ⟨Kd.R_up HO_5.out⟩, ⟨below_up HB.out⟩⟩
     ·
      rw [if_neg c31] at H
      have c31b0 := decide_eq_false c31
      clear c31
      obtain ⟨c43, H⟩ := ite_some H
      have c43b0 := decide_eq_true c43
      have c43b1 : decide (0 ≤ l0.length) = true := decide_eq_true (by omega)
      clear c43
      obtain ⟨c44, H⟩ := ite_some H
      have c44b0 := decide_eq_true c44
      have c44b1 : decide (l0.length < x5_1.length) = true := decide_eq_true (Int.ofNat_lt.mp c44)
      clear c44
      obtain ⟨y195, hy195⟩ : ∃ y_ : List Int, y_ = (x5_1.set ((l0.length : Int) : Int).toNat ((x6_1) % 4294967296)) := ⟨_, rfl⟩
      replace H : (some y195) = some r := by first | (rw [hy195]; exact H) | exact H
      have Ny195 := Aside0.mk hy195
      clear hy195
      obtain rfl := Option.some.inj H
      have p45 : 0 ≤ ((l0.length : Int) : Int) := of_decide_eq_true (by assumption)
      have q45 : ((l0.length : Int) : Int) < ((x5_1.length : Int) : Int) := of_decide_eq_true (by assumption)
      obtain ⟨go45, co45, eo45, gb45, gl45, cl45, HG45⟩ := Kd.R_form HO_5.out (by omega)
      (first | cases eo45 | (injection eo45 with ea_ en_ ec_; (first | subst ea_ | (injection ea_ with ea_; subst ea_)); subst ec_; clear en_))
      have GB45 := Aside0.mk gb45
      have GG45 := Aside0.mk HG45
      clear gb45 gl45 HG45
      obtain ⟨hx45_0, hf45_0⟩ := Kd.R_celln 0 HO_5.out ((l0.length : Int) : Int) p45 q45
      (try simp only [Go.IntWalk.toNatUp] at hx45_0 hf45_0)
      replace p45 := eq_true p45
      replace q45 := eq_true q45
      have HP46 := Kd.R_putg HO_5.out ((l0.length : Int) : Int) ((x6_1) % 4294967296)
      go_wp2_with (first | ((with_reducible refine gate_store (t := 60) (p := 55) rfl ?_); refine store_event (t := 60) (p := 55) (v := ?vo_w47) (w1 := (wr.setCell ⟨go45, ((l0.length : Int) : Int).toNat, none⟩ (.int .u32 ((x6_1) % 4294967296)))) ?hg ?ho ?hn ?hr ?_; (case ho => rfl); (case hg => rfl); (case hn => rfl); (case hr => first | (go_simp; done) | (go_simp; rfl)); intro w47 hw; have hg : wr.grownBy w47 (some go45) := (by rw [hw]; exact HP46.2); have hp_ : Kd.R (Kd.int .u32) 60 w47 w.heap.size (fun _ => True) (.slice (some ⟨go45, 0, none⟩) x5_1.length co45) y195 := (by rw [hw, Ny195.out]; exact HP46.1); clear HP46; replace HO_5 := Aside0.mk (hp_); replace HB := Aside0.mk ((by rw [hw]; exact below_set (HB.out) GB45.out : Below w.heap.size w w47)); clear hg hw hp_))
      go_ret
      exact ⟨_, by first | rfl | (simp [errW_none, errW_some] <;> rfl) | (simp only [← hji26]; first | rfl | (simp [errW_none, errW_some] <;> rfl)) | (simp [*, errW_none, errW_some] <;> rfl), Kd.R_up HO_5.out, below_up HB.out⟩
  ·
   rw [if_neg c27] at H
   exact absurd H (by simp)
def integer_minus.l0 : Nat → List Int → List Int → Int → List Int → Int → Int → Option (List Int)
 | 0, _, _, _, _, _, _ => none
 | k + 1, x1, x5, x6, x13, x14, x15 => if x15 < x14 then (if 0 ≤ x15 then (if x15 < (x13.length : Int) then (if x15 < (x1.length : Int) then (if (wrap64 ((wrap64 ((wrap64 (rd x13 x15)) - x6)) - (wrap64 (rd x1 x15)))) < 0 then (if x15 < (x5.length : Int) then (integer_minus.l0 k x1 (x5.set (x15 : Int).toNat ((wrap64 ((wrap64 ((wrap64 (rd x13 x15)) - x6)) - (wrap64 (rd x1 x15)))) % 4294967296)) 1 x13 x14 (wrap64 (x15 + 1))) else (none)) else (if x15 < (x5.length : Int) then (integer_minus.l0 k x1 (x5.set (x15 : Int).toNat ((wrap64 ((wrap64 ((wrap64 (rd x13 x15)) - x6)) - (wrap64 (rd x1 x15)))) % 4294967296)) 0 x13 x14 (wrap64 (x15 + 1))) else (none))) else (if (wrap64 ((wrap64 (rd x13 x15)) - x6)) < 0 then (if x15 < (x5.length : Int) then (integer_minus.l0 k x1 (x5.set (x15 : Int).toNat ((wrap64 ((wrap64 (rd x13 x15)) - x6)) % 4294967296)) 1 x13 x14 (wrap64 (x15 + 1))) else (none)) else (if x15 < (x5.length : Int) then (integer_minus.l0 k x1 (x5.set (x15 : Int).toNat ((wrap64 ((wrap64 (rd x13 x15)) - x6)) % 4294967296)) 0 x13 x14 (wrap64 (x15 + 1))) else (none)))) else (none)) else (none)) else (some x5)
def integer_minus.f (k : Nat) (l0 : List Int) (l1 : List Int) : Option (List Int) := if 0 ≤ (l0.length : Int) then (if ((l0.length : Int) : Int).toNat ≤ 70368744177664 then (integer_minus.l0 k l1 (List.replicate ((l0.length : Int) : Int).toNat 0) 0 l0 (l0.length : Int) 0) else (none)) else (none)
theorem integer_minus.mono_l : ∀ k, (∀ y0 y1 y2 y3 y4 y5, LeO (integer_minus.l0 k y0 y1 y2 y3 y4 y5) (integer_minus.l0 (k + 1) y0 y1 y2 y3 y4 y5))
 | 0 => fun _ _ _ _ _ _ r h => by simp [integer_minus.l0] at h
 | k + 1 => by
  have ih0 := integer_minus.mono_l k
  ·
   intro y0 y1 y2 y3 y4 y5
   unfold integer_minus.l0
   repeat' with_reducible first | exact ih0 _ _ _ _ _ _ | exact LeO.refl _ | exact LeO.none _ | refine LeO.ite ?_ ?_ | refine LeO.bind ?_ (fun _ => ?_)
theorem integer_minus.mono : ∀ a0 a1 k, LeO (integer_minus.f k a0 a1) (integer_minus.f (k + 1) a0 a1) := by
 intro a0 a1 k
 have ih0 := integer_minus.mono_l k
 unfold integer_minus.f
 repeat' with_reducible first | exact ih0 _ _ _ _ _ _ | exact LeO.refl _ | exact LeO.none _ | refine LeO.ite ?_ ?_ | refine LeO.bind ?_ (fun _ => ?_)
set_option maxHeartbeats 8000000 in
set_option maxRecDepth 100000 in
theorem integer_minus.calls (k : Nat) (A0 : Option Addr) (c0 : Nat) (l0 : List Int) (A1 : Option Addr) (c1 : Nat) (l1 : List Int) (r : List Int) (w : World) (hr0 : Kd.C (Kd.int .u32) w A0 l0.length l0) (hc0 : l0.length ≤ c0) (hr1 : Kd.C (Kd.int .u32) w A1 l1.length l1) (hc1 : l1.length ≤ c1) (h : integer_minus.f k l0 l1 = some r) :
  Calls Tryd.prog 64 #[.slice A0 l0.length c0, .slice A1 l1.length c1] w fun e w' => ∃ v0_ : Value, e = .returned (v0_) ∧ Kd.R (Kd.int .u32) 60 w' w.heap.size (fun _ => True) v0_ r ∧ Below w.heap.size w w' := by
 have HR0 := Aside0.mk hr0
 have HC0 := Aside0.mk hc0
 clear hr0 hc0
 have HR1 := Aside0.mk hr1
 have HC1 := Aside0.mk hc1
 clear hr1 hc1
 have HB := Aside0.mk (Below.refl w.heap.size w)
 have H := h
 unfold integer_minus.f at H
 clear h
 by_cases c3 : 0 ≤ (l0.length : Int)
 ·
  rw [if_pos c3] at H
  have c3b0 := eq_true c3
  have c3b1 := decide_eq_true c3
  clear c3
  obtain ⟨c4, H⟩ := ite_some H
  have c4b0 := eq_true c4
  have c4b1 := decide_eq_true c4
  clear c4
  obtain ⟨y196, hy196⟩ : ∃ y_ : List Int, y_ = (List.replicate ((l0.length : Int) : Int).toNat 0) := ⟨_, rfl⟩
  replace H : (integer_minus.l0 k l1 y196 0 l0 (l0.length : Int) 0) = some r := by first | (rw [hy196]; exact H) | exact H
  have Ny196 := Aside0.mk hy196
  clear hy196
  have H' := Aside0.mk H
  clear H
  go_enter Tryd.func64, Tryd.ntmps64
  go_wp2_with (first | ((with_reducible refine gate_dst (N := 12) rfl ?_); refine Kd.R_make (Kd.int .u32) _ 60 rfl (N := 12) rfl 23 _ _ rfl (l0.length : Int) rfl rfl Tryd.underlying23 (.int .u32 0) 4 info60 rfl (by decide) (by omega) 0 (ok := fun _ => True) (okp := fun _ => True) rfl (fun _ hk => hk) trivial (of_decide_eq_true (by assumption)) (Nat.le_trans (Nat.mul_le_mul_right _ (of_decide_eq_true (by assumption) : (l0.length : Int).toNat ≤ 70368744177664)) (by omega)) (Below.refl _ _) (Nat.le_refl _) ?_; intro v197 w5 ho6 hb hg_ hnew_; clear hg_ hnew_; (first | rw [← Ny196.out] at ho6 | (simp only [Int.reduceToNat] at ho6; rw [← Ny196.out] at ho6)); have HO198 := Aside0.mk (Kd.R_lower ho6 (below_size (below_up HB.out))); replace HB := Aside0.mk (below_step (below_up HB.out) hb); clear hb ho6))
  go_loopg [6, 15] k (fun kq v6 v15 w' => ∃ (x5_1 : List Int) (x6_1 : Int) (x15_1 : Int), v6 = .int .i64 x6_1 ∧ v15 = .int .i64 x15_1 ∧ Aside0 (integer_minus.l0 kq l1 x5_1 x6_1 l0 (l0.length : Int) x15_1 = some r) ∧ Aside0 (kq ≤ k) ∧ Aside0 (Kd.R (Kd.int .u32) 60 w' w.heap.size (fun _ => True) v197 x5_1) ∧ Aside0 (Below w.heap.size w w'))
  case atStart => exact ⟨(y196), (0), (0), (by first | rfl | (simp; done) | (simp [*]; done) | (simp <;> omega)), (by first | rfl | (simp; done) | (simp [*]; done) | (simp <;> omega)), H', ⟨Nat.le_refl _⟩, ⟨Kd.R_up HO198.out⟩, ⟨below_up HB.out⟩⟩
  case round =>
   clear H'
   obtain ⟨x5_1, x6_1, x15_1, rfl, rfl, HA, HK1, HO_5, HB⟩ := hrel
   cases gk with
   | zero => exact absurd HA.out (by simp [integer_minus.l0])
   | succ k1 =>
    have H := HA.out
    clear HA
    simp only [integer_minus.l0] at H
    by_cases c7 : x15_1 < (l0.length : Int)
    ·
     rw [if_pos c7] at H
     have c7b0 := decide_eq_true c7
     clear c7
     obtain ⟨c8, H⟩ := ite_some H
     have c8b0 := decide_eq_true c8
     clear c8
     obtain ⟨c9, H⟩ := ite_some H
     have c9b0 := decide_eq_true c9
     clear c9
     by_cases c10 : x15_1 < (l1.length : Int)
     ·
      rw [if_pos c10] at H
      have c10b0 := decide_eq_true c10
      clear c10
      by_cases c11 : (wrap64 ((wrap64 ((wrap64 (rd l0 x15_1)) - x6_1)) - (wrap64 (rd l1 x15_1)))) < 0
      ·
       rw [if_pos c11] at H
       have c11b0 := decide_eq_true c11
       clear c11
       obtain ⟨c12, H⟩ := ite_some H
       have c12b0 := decide_eq_true c12
       clear c12
       obtain ⟨y201, hy201⟩ : ∃ y_ : List Int, y_ = (x5_1.set (x15_1 : Int).toNat ((wrap64 ((wrap64 ((wrap64 (rd l0 x15_1)) - x6_1)) - (wrap64 (rd l1 x15_1)))) % 4294967296)) := ⟨_, rfl⟩
       replace H : (integer_minus.l0 k1 l1 y201 1 l0 (l0.length : Int) (wrap64 (x15_1 + 1))) = some r := by first | (rw [hy201]; exact H) | exact H
       have Ny201 := Aside0.mk hy201
       clear hy201
       have H' := Aside0.mk H
       clear H
       have p199 : 0 ≤ (x15_1 : Int) := of_decide_eq_true (by assumption)
       have q199 : x15_1 < (l0.length : Int) := of_decide_eq_true (by assumption)
       obtain ⟨ad199, e199, hx199_0⟩ := Kd.at_int HR0.out x15_1 p199 q199
       cases e199
       replace hx199_0 := (HB.out.cell (World.block_lt_of_cell? w _ hx199_0)).trans hx199_0
       replace p199 := eq_true p199
       replace q199 := eq_true q199
       have p200 : 0 ≤ (x15_1 : Int) := of_decide_eq_true (by assumption)
       have q200 : x15_1 < (l1.length : Int) := of_decide_eq_true (by assumption)
       obtain ⟨ad200, e200, hx200_0⟩ := Kd.at_int HR1.out x15_1 p200 q200
       cases e200
       replace hx200_0 := (HB.out.cell (World.block_lt_of_cell? w _ hx200_0)).trans hx200_0
       replace p200 := eq_true p200
       replace q200 := eq_true q200
       have p13 : 0 ≤ (x15_1 : Int) := of_decide_eq_true (by assumption)
       have q13 : (x15_1 : Int) < ((x5_1.length : Int) : Int) := of_decide_eq_true (by assumption)
       obtain ⟨go13, co13, eo13, gb13, gl13, cl13, HG13⟩ := Kd.R_form HO_5.out (by omega)
       (first | cases eo13 | (injection eo13 with ea_ en_ ec_; (first | subst ea_ | (injection ea_ with ea_; subst ea_)); subst ec_; clear en_))
       have GB13 := Aside0.mk gb13
       have GG13 := Aside0.mk HG13
       clear gb13 gl13 HG13
       obtain ⟨hx13_0, hf13_0⟩ := Kd.R_celln 0 HO_5.out (x15_1 : Int) p13 q13
       replace p13 := eq_true p13
       replace q13 := eq_true q13
       have HP14 := Kd.R_putg HO_5.out (x15_1 : Int) ((wrap64 ((wrap64 ((wrap64 (rd l0 x15_1)) - x6_1)) - (wrap64 (rd l1 x15_1)))) % 4294967296)
       go_wp2_with (first | ((with_reducible refine gate_store (t := 60) (p := 41) rfl ?_); refine store_event (t := 60) (p := 41) (v := ?vo_w15) (w1 := (wr.setCell ⟨go13, (x15_1 : Int).toNat, none⟩ (.int .u32 ((wrap64 ((wrap64 ((wrap64 (rd l0 x15_1)) - x6_1)) - (wrap64 (rd l1 x15_1)))) % 4294967296)))) ?hg ?ho ?hn ?hr ?_; (case ho => rfl); (case hg => rfl); (case hn => rfl); (case hr => first | (go_simp; done) | (go_simp; rfl)); intro w15 hw; have hg : wr.grownBy w15 (some go13) := (by rw [hw]; exact HP14.2); have hp_ : Kd.R (Kd.int .u32) 60 w15 w.heap.size (fun _ => True) (.slice (some ⟨go13, 0, none⟩) x5_1.length co13) y201 := (by rw [hw, Ny201.out]; exact HP14.1); clear HP14; replace HO_5 := Aside0.mk (hp_); replace HB := Aside0.mk ((by rw [hw]; exact below_set (HB.out) GB13.out : Below w.heap.size w w15)); clear hg hw hp_))
       go_roundg k1
       case measure => have := HK1.out; omega
       case rel => exact ⟨(y201), (1), (wrap64 (x15_1 + 1)), (by first | rfl | (simp; done) | (simp [*]; done) | (simp <;> omega)), (by first | rfl | (simp; done) | (simp [*]; done) | (simp <;> omega)), H', ⟨by have := HK1.out; omega⟩, ⟨Kd.R_up HO_5.out⟩, ⟨below_up HB.out⟩⟩
      ·
       rw [if_neg c11] at H
       have c11b0 := decide_eq_false c11
       clear c11
       obtain ⟨c16, H⟩ := ite_some H
       have c16b0 := decide_eq_true c16
       clear c16
       obtain ⟨y202, hy202⟩ : ∃ y_ : List Int, y_ = (x5_1.set (x15_1 : Int).toNat ((wrap64 ((wrap64 ((wrap64 (rd l0 x15_1)) - x6_1)) - (wrap64 (rd l1 x15_1)))) % 4294967296)) := ⟨_, rfl⟩
       replace H : (integer_minus.l0 k1 l1 y202 0 l0 (l0.length : Int) (wrap64 (x15_1 + 1))) = some r := by first | (rw [hy202]; exact H) | exact H
       have Ny202 := Aside0.mk hy202
       clear hy202
       have H' := Aside0.mk H
       clear H
       have p199 : 0 ≤ (x15_1 : Int) := of_decide_eq_true (by assumption)
       have q199 : x15_1 < (l0.length : Int) := of_decide_eq_true (by assumption)
       obtain ⟨ad199, e199, hx199_0⟩ := Kd.at_int HR0.out x15_1 p199 q199
       cases e199
       replace hx199_0 := (HB.out.cell (World.block_lt_of_cell? w _ hx199_0)).trans hx199_0
       replace p199 := eq_true p199
       replace q199 := eq_true q199
       have p200 : 0 ≤ (x15_1 : Int) := of_decide_eq_true (by assumption)
       have q200 : x15_1 < (l1.length : Int) := of_decide_eq_true (by assumption)
       obtain ⟨ad200, e200, hx200_0⟩ := Kd.at_int HR1.out x15_1 p200 q200
       cases e200
       replace hx200_0 := (HB.out.cell (World.block_lt_of_cell? w _ hx200_0)).trans hx200_0
       replace p200 := eq_true p200
       replace q200 := eq_true q200
       have p17 : 0 ≤ (x15_1 : Int) := of_decide_eq_true (by assumption)
       have q17 : (x15_1 : Int) < ((x5_1.length : Int) : Int) := of_decide_eq_true (by assumption)
       obtain ⟨go17, co17, eo17, gb17, gl17, cl17, HG17⟩ := Kd.R_form HO_5.out (by omega)
       (first | cases eo17 | (injection eo17 with ea_ en_ ec_; (first | subst ea_ | (injection ea_ with ea_; subst ea_)); subst ec_; clear en_))
       have GB17 := Aside0.mk gb17
       have GG17 := Aside0.mk HG17
       clear gb17 gl17 HG17
       obtain ⟨hx17_0, hf17_0⟩ := Kd.R_celln 0 HO_5.out (x15_1 : Int) p17 q17
       replace p17 := eq_true p17
       replace q17 := eq_true q17
       have HP18 := Kd.R_putg HO_5.out (x15_1 : Int) ((wrap64 ((wrap64 ((wrap64 (rd l0 x15_1)) - x6_1)) - (wrap64 (rd l1 x15_1)))) % 4294967296)
       go_wp2_with (first | ((with_reducible refine gate_store (t := 60) (p := 41) rfl ?_); refine store_event (t := 60) (p := 41) (v := ?vo_w19) (w1 := (wr.setCell ⟨go17, (x15_1 : Int).toNat, none⟩ (.int .u32 ((wrap64 ((wrap64 ((wrap64 (rd l0 x15_1)) - x6_1)) - (wrap64 (rd l1 x15_1)))) % 4294967296)))) ?hg ?ho ?hn ?hr ?_; (case ho => rfl); (case hg => rfl); (case hn => rfl); (case hr => first | (go_simp; done) | (go_simp; rfl)); intro w19 hw; have hg : wr.grownBy w19 (some go17) := (by rw [hw]; exact HP18.2); have hp_ : Kd.R (Kd.int .u32) 60 w19 w.heap.size (fun _ => True) (.slice (some ⟨go17, 0, none⟩) x5_1.length co17) y202 := (by rw [hw, Ny202.out]; exact HP18.1); clear HP18; replace HO_5 := Aside0.mk (hp_); replace HB := Aside0.mk ((by rw [hw]; exact below_set (HB.out) GB17.out : Below w.heap.size w w19)); clear hg hw hp_))
       go_roundg k1
       case measure => have := HK1.out; omega
       case rel => exact ⟨(y202), (0), (wrap64 (x15_1 + 1)), (by first | rfl | (simp; done) | (simp [*]; done) | (simp <;> omega)), (by first | rfl | (simp; done) | (simp [*]; done) | (simp <;> omega)), H', ⟨by have := HK1.out; omega⟩, ⟨Kd.R_up HO_5.out⟩, ⟨below_up HB.out⟩⟩
     ·
      rw [if_neg c10] at H
      have c10b0 := decide_eq_false c10
      clear c10
      by_cases c20 : (wrap64 ((wrap64 (rd l0 x15_1)) - x6_1)) < 0
      ·
       rw [if_pos c20] at H
       have c20b0 := decide_eq_true c20
       clear c20
       obtain ⟨c21, H⟩ := ite_some H
       have c21b0 := decide_eq_true c21
       clear c21
       obtain ⟨y203, hy203⟩ : ∃ y_ : List Int, y_ = (x5_1.set (x15_1 : Int).toNat ((wrap64 ((wrap64 (rd l0 x15_1)) - x6_1)) % 4294967296)) := ⟨_, rfl⟩
       replace H : (integer_minus.l0 k1 l1 y203 1 l0 (l0.length : Int) (wrap64 (x15_1 + 1))) = some r := by first | (rw [hy203]; exact H) | exact H
       have Ny203 := Aside0.mk hy203
       clear hy203
       have H' := Aside0.mk H
       clear H
       have p199 : 0 ≤ (x15_1 : Int) := of_decide_eq_true (by assumption)
       have q199 : x15_1 < (l0.length : Int) := of_decide_eq_true (by assumption)
       obtain ⟨ad199, e199, hx199_0⟩ := Kd.at_int HR0.out x15_1 p199 q199
       cases e199
       replace hx199_0 := (HB.out.cell (World.block_lt_of_cell? w _ hx199_0)).trans hx199_0
       replace p199 := eq_true p199
       replace q199 := eq_true q199
       have p22 : 0 ≤ (x15_1 : Int) := of_decide_eq_true (by assumption)
       have q22 : (x15_1 : Int) < ((x5_1.length : Int) : Int) := of_decide_eq_true (by assumption)
       obtain ⟨go22, co22, eo22, gb22, gl22, cl22, HG22⟩ := Kd.R_form HO_5.out (by omega)
       (first | cases eo22 | (injection eo22 with ea_ en_ ec_; (first | subst ea_ | (injection ea_ with ea_; subst ea_)); subst ec_; clear en_))
       have GB22 := Aside0.mk gb22
       have GG22 := Aside0.mk HG22
       clear gb22 gl22 HG22
       obtain ⟨hx22_0, hf22_0⟩ := Kd.R_celln 0 HO_5.out (x15_1 : Int) p22 q22
       replace p22 := eq_true p22
       replace q22 := eq_true q22
       have HP23 := Kd.R_putg HO_5.out (x15_1 : Int) ((wrap64 ((wrap64 (rd l0 x15_1)) - x6_1)) % 4294967296)
       go_wp2_with (first | ((with_reducible refine gate_store (t := 60) (p := 41) rfl ?_); refine store_event (t := 60) (p := 41) (v := ?vo_w24) (w1 := (wr.setCell ⟨go22, (x15_1 : Int).toNat, none⟩ (.int .u32 ((wrap64 ((wrap64 (rd l0 x15_1)) - x6_1)) % 4294967296)))) ?hg ?ho ?hn ?hr ?_; (case ho => rfl); (case hg => rfl); (case hn => rfl); (case hr => first | (go_simp; done) | (go_simp; rfl)); intro w24 hw; have hg : wr.grownBy w24 (some go22) := (by rw [hw]; exact HP23.2); have hp_ : Kd.R (Kd.int .u32) 60 w24 w.heap.size (fun _ => True) (.slice (some ⟨go22, 0, none⟩) x5_1.length co22) y203 := (by rw [hw, Ny203.out]; exact HP23.1); clear HP23; replace HO_5 := Aside0.mk (hp_); replace HB := Aside0.mk ((by rw [hw]; exact below_set (HB.out) GB22.out : Below w.heap.size w w24)); clear hg hw hp_))
       go_roundg k1
       case measure => have := HK1.out; omega
       case rel => exact ⟨(y203), (1), (wrap64 (x15_1 + 1)), (by first | rfl | (simp; done) | (simp [*]; done) | (simp <;> omega)), (by first | rfl | (simp; done) | (simp [*]; done) | (simp <;> omega)), H', ⟨by have := HK1.out; omega⟩, ⟨Kd.R_up HO_5.out⟩, ⟨below_up HB.out⟩⟩
      ·
       rw [if_neg c20] at H
       have c20b0 := decide_eq_false c20
       clear c20
       obtain ⟨c25, H⟩ := ite_some H
       have c25b0 := decide_eq_true c25
       clear c25
       obtain ⟨y204, hy204⟩ : ∃ y_ : List Int, y_ = (x5_1.set (x15_1 : Int).toNat ((wrap64 ((wrap64 (rd l0 x15_1)) - x6_1)) % 4294967296)) := ⟨_, rfl⟩
       replace H : (integer_minus.l0 k1 l1 y204 0 l0 (l0.length : Int) (wrap64 (x15_1 + 1))) = some r := by first | (rw [hy204]; exact H) | exact H
       have Ny204 := Aside0.mk hy204
       clear hy204
       have H' := Aside0.mk H
       clear H
       have p199 : 0 ≤ (x15_1 : Int) := of_decide_eq_true (by assumption)
       have q199 : x15_1 < (l0.length : Int) := of_decide_eq_true (by assumption)
       obtain ⟨ad199, e199, hx199_0⟩ := Kd.at_int HR0.out x15_1 p199 q199
       cases e199
       replace hx199_0 := (HB.out.cell (World.block_lt_of_cell? w _ hx199_0)).trans hx199_0
       replace p199 := eq_true p199
       replace q199 := eq_true q199
       have p26 : 0 ≤ (x15_1 : Int) := of_decide_eq_true (by assumption)
       have q26 : (x15_1 : Int) < ((x5_1.length : Int) : Int) := of_decide_eq_true (by assumption)
       obtain ⟨go26, co26, eo26, gb26, gl26, cl26, HG26⟩ := Kd.R_form HO_5.out (by omega)
       (first | cases eo26 | (injection eo26 with ea_ en_ ec_; (first | subst ea_ | (injection ea_ with ea_; subst ea_)); subst ec_; clear en_))
       have GB26 := Aside0.mk gb26
       have GG26 := Aside0.mk HG26
       clear gb26 gl26 HG26
       obtain ⟨hx26_0, hf26_0⟩ := Kd.R_celln 0 HO_5.out (x15_1 : Int) p26 q26
       replace p26 := eq_true p26
       replace q26 := eq_true q26
       have HP27 := Kd.R_putg HO_5.out (x15_1 : Int) ((wrap64 ((wrap64 (rd l0 x15_1)) - x6_1)) % 4294967296)
       go_wp2_with (first | ((with_reducible refine gate_store (t := 60) (p := 41) rfl ?_); refine store_event (t := 60) (p := 41) (v := ?vo_w28) (w1 := (wr.setCell ⟨go26, (x15_1 : Int).toNat, none⟩ (.int .u32 ((wrap64 ((wrap64 (rd l0 x15_1)) - x6_1)) % 4294967296)))) ?hg ?ho ?hn ?hr ?_; (case ho => rfl); (case hg => rfl); (case hn => rfl); (case hr => first | (go_simp; done) | (go_simp; rfl)); intro w28 hw; have hg : wr.grownBy w28 (some go26) := (by rw [hw]; exact HP27.2); have hp_ : Kd.R (Kd.int .u32) 60 w28 w.heap.size (fun _ => True) (.slice (some ⟨go26, 0, none⟩) x5_1.length co26) y204 := (by rw [hw, Ny204.out]; exact HP27.1); clear HP27; replace HO_5 := Aside0.mk (hp_); replace HB := Aside0.mk ((by rw [hw]; exact below_set (HB.out) GB26.out : Below w.heap.size w w28)); clear hg hw hp_))
       go_roundg k1
       case measure => have := HK1.out; omega
       case rel => exact ⟨(y204), (0), (wrap64 (x15_1 + 1)), (by first | rfl | (simp; done) | (simp [*]; done) | (simp <;> omega)), (by first | rfl | (simp; done) | (simp [*]; done) | (simp <;> omega)), H', ⟨by have := HK1.out; omega⟩, ⟨Kd.R_up HO_5.out⟩, ⟨below_up HB.out⟩⟩
    ·
     rw [if_neg c7] at H
     have c7b0 := decide_eq_false c7
     clear c7
     obtain rfl := Option.some.inj H
     go_wp2
     go_ret
     exact ⟨_, by first | rfl | (simp [errW_none, errW_some] <;> rfl) | (simp [*, errW_none, errW_some] <;> rfl), Kd.R_up HO_5.out, below_up HB.out⟩
 ·
  rw [if_neg c3] at H
  exact absurd H (by simp)
def integer_Add.f (k : Nat) (a0_0 : Bool) (l0_1 : List Int) (a1_0 : Bool) (l1_1 : List Int) : Option (Bool × List Int) := if (a0_0 == a1_0) = true then ((integer_plus.f k l0_1 l1_1).bind fun t208 => ((integer_signed.f k a0_0 t208).bind fun bt211 => (some (bt211.1, bt211.2)))) else ((integer_order.f k l0_1 l1_1).bind fun t215 => (if t215 ≥ 0 then ((integer_minus.f k l0_1 l1_1).bind fun t216 => ((integer_signed.f k a0_0 t216).bind fun bt219 => (some (bt219.1, bt219.2)))) else ((integer_minus.f k l1_1 l0_1).bind fun t223 => ((integer_signed.f k a1_0 t223).bind fun bt226 => (some (bt226.1, bt226.2))))))
theorem integer_Add.mono : ∀ a0 a1 a2 a3 k, LeO (integer_Add.f k a0 a1 a2 a3) (integer_Add.f (k + 1) a0 a1 a2 a3) := by
 intro a0 a1 a2 a3 k
 unfold integer_Add.f
 repeat' with_reducible first | exact integer_minus.mono _ _ _ | exact integer_order.mono _ _ _ | exact integer_plus.mono _ _ _ | exact integer_signed.mono _ _ _ | exact LeO.refl _ | exact LeO.none _ | refine LeO.ite ?_ ?_ | refine LeO.bind ?_ (fun _ => ?_)
def integer_Add.T2 : Bool × List (List Nat × List Nat) := (true, [([], []), ([0], [0]), ([], []), ([2], [2]), ([], []), ([4], [4]), ([3, 5], [3, 5]), ([1, 6, 6], [1, 6]), ([7, 7, 0, 1, 2, 3, 4, 5, 6, 7], [7])])
def integer_Add.B2 : List Nat := [0, 1, 0, 4, 0, 16, 60, 127, 255]
theorem integer_Add.tab2 : rtab .any (opsOf Tryd.f35 2) = integer_Add.T2 := by kernel_rfl
theorem integer_Add.bits2 : waitsOk integer_Add.T2.2 integer_Add.B2 = true := by kernel_rfl
def integer_Add.T4 : Bool × List (List Nat × List Nat) := (true, [([], []), ([0], [0]), ([], []), ([2], [2]), ([], []), ([4], [4]), ([3, 5], [3, 5]), ([1, 6, 6], [1, 6]), ([7, 7, 0, 1, 2, 3, 4, 5, 6, 7], [7])])
def integer_Add.B4 : List Nat := [0, 1, 0, 4, 0, 16, 60, 127, 255]
theorem integer_Add.tab4 : rtab .any (opsOf Tryd.f35 4) = integer_Add.T4 := by kernel_rfl
theorem integer_Add.bits4 : waitsOk integer_Add.T4.2 integer_Add.B4 = true := by kernel_rfl
def integer_Add.T5 : Bool × List (List Nat × List Nat) := (true, [([], []), ([0], [0]), ([], []), ([2], [2]), ([], []), ([4], [4]), ([3, 5], [3, 5]), ([1, 6, 6], [1, 6]), ([7, 7, 0, 1, 2, 3, 4, 5, 6, 7], [7])])
def integer_Add.B5 : List Nat := [0, 1, 0, 4, 0, 16, 60, 127, 255]
theorem integer_Add.tab5 : rtab .any (opsOf Tryd.f35 5) = integer_Add.T5 := by kernel_rfl
theorem integer_Add.bits5 : waitsOk integer_Add.T5.2 integer_Add.B5 = true := by kernel_rfl
set_option maxHeartbeats 8000000 in
set_option maxRecDepth 100000 in
theorem integer_Add.calls (k : Nat) (a0_0 : Bool) (A0_1 : Option Addr) (c0_1 : Nat) (l0_1 : List Int) (a1_0 : Bool) (A1_1 : Option Addr) (c1_1 : Nat) (l1_1 : List Int) (r1 : Bool) (r2 : List Int) (w : World) (hr0_1 : Kd.C (Kd.int .u32) w A0_1 l0_1.length l0_1) (hc0_1 : l0_1.length ≤ c0_1) (hr1_1 : Kd.C (Kd.int .u32) w A1_1 l1_1.length l1_1) (hc1_1 : l1_1.length ≤ c1_1) (h : integer_Add.f k a0_0 l0_1 a1_0 l1_1 = some (r1, r2)) :
  Calls Tryd.prog 35 #[.agg #[.bool a0_0, .slice A0_1 l0_1.length c0_1], .agg #[.bool a1_0, .slice A1_1 l1_1.length c1_1]] w fun e w' => ∃ v1_ : Value, e = .returned (.agg #[.bool r1, v1_]) ∧ Kd.V (Kd.int .u32) 60 w' w.heap.size (fun k_ => (w.heap.size ≤ k_)) v1_ r2 ∧ Below w.heap.size w w' := by
 have hu25 := Tryd.underlying25
 have HR0_1 := Aside0.mk hr0_1
 have HC0_1 := Aside0.mk hc0_1
 clear hr0_1 hc0_1
 have HR1_1 := Aside0.mk hr1_1
 have HC1_1 := Aside0.mk hc1_1
 clear hr1_1 hc1_1
 have HB := Aside0.mk (Below.refl w.heap.size w)
 have H := h
 unfold integer_Add.f at H
 clear h
 by_cases c3 : (a0_0 == a1_0) = true
 ·
  rw [if_pos c3] at H
  have c3b0 : (a0_0 == a1_0) = true := c3
  (try (have c3b1 : decide (a0_0 = a1_0) = true := by simpa using c3))
  (try (have c3b2 : (a0_0 == a1_0) = true := by simpa using c3))
  clear c3
  replace H := Option.bind_eq_some_iff.mp H
  obtain ⟨t208, A40, H⟩ := H
  try dsimp only at H
  have A4 := Aside0.mk A40
  clear A40
  replace H := Option.bind_eq_some_iff.mp H
  obtain ⟨⟨t211, t212⟩, A50, H⟩ := H
  try dsimp only at H
  have A5 := Aside0.mk A50
  clear A50
  simp only [Option.some.injEq, Prod.mk.injEq] at H
  obtain ⟨rfl, rfl⟩ := H
  go_enter Tryd.func35, Tryd.ntmps35
  try go_wp2_with (first | ((with_reducible refine gate_dst (N := 2) rfl ?_); refine box_event ?hg (N := 2) ?hd (cs := #[.bool a0_0, .slice A0_1 l0_1.length c0_1]) (t := 25) ?hr ?_; (case hd => rfl); (case hg => rfl); (case hr => first | (go_simp; done) | (go_simp; rfl)); intro gb205 hg w6 hbox hb; have BK205 := Aside0.mk (hbox); have GE205 := Aside0.mk ((size_up hg HB.out : w.heap.size ≤ gb205)); replace HB := Aside0.mk (below_step (below_up HB.out) hb); clear hb hbox hg) | ((with_reducible refine gate_dst (N := 3) rfl ?_); refine box_event ?hg (N := 3) ?hd (cs := #[.bool a1_0, .slice A1_1 l1_1.length c1_1]) (t := 25) ?hr ?_; (case hd => rfl); (case hg => rfl); (case hr => first | (go_simp; done) | (go_simp; rfl)); intro gb206 hg w7 hbox hb; have BK206 := Aside0.mk (hbox); have GE206 := Aside0.mk ((by rw [hg]; exact (below_size (by with_reducible repeat first | exact HB.out | apply below_alloc | apply pw_below_drewN | apply below_drew1 | refine below_set ?_ GE205.out)) : w.heap.size ≤ gb206)); replace HB := Aside0.mk (below_step (by with_reducible repeat first | exact HB.out | apply below_alloc | apply pw_below_drewN | apply below_drew1 | refine below_set ?_ GE205.out) hb); have NB205_206 := Aside0.mk ((blk_nw hg BK205.out : gb205 ≠ gb206)); have NB206_205 := Aside0.mk ((nw_blk hg BK205.out : gb206 ≠ gb205)); replace BK205 := Aside0.mk (blk_below (blk_up BK205.out) hb); clear hb hbox hg) | ((with_reducible refine gate_dst (N := 4) rfl ?_); refine box_event ?hg (N := 4) ?hd (cs := #[.bool false, .slice none 0 0]) (t := 25) ?hr ?_; (case hd => rfl); (case hg => rfl); (case hr => first | (go_simp; done) | (go_simp; rfl)); intro gb207 hg w8 hbox hb; have BK207 := Aside0.mk (hbox); have GE207 := Aside0.mk ((by rw [hg]; exact (below_size (by with_reducible repeat first | exact HB.out | apply below_alloc | apply pw_below_drewN | apply below_drew1 | refine below_set ?_ GE205.out | refine below_set ?_ GE206.out)) : w.heap.size ≤ gb207)); replace HB := Aside0.mk (below_step (by with_reducible repeat first | exact HB.out | apply below_alloc | apply pw_below_drewN | apply below_drew1 | refine below_set ?_ GE205.out | refine below_set ?_ GE206.out) hb); have NB205_207 := Aside0.mk ((blk_nw hg BK205.out : gb205 ≠ gb207)); have NB207_205 := Aside0.mk ((nw_blk hg BK205.out : gb207 ≠ gb205)); replace BK205 := Aside0.mk (blk_below (blk_up BK205.out) hb); have NB206_207 := Aside0.mk ((blk_nw hg BK206.out : gb206 ≠ gb207)); have NB207_206 := Aside0.mk ((nw_blk hg BK206.out : gb207 ≠ gb206)); replace BK206 := Aside0.mk (blk_below (blk_up BK206.out) hb); clear hb hbox hg; have hnb9 := NB205_206.out; have hnc9 := NB206_205.out; have hnb10 := NB205_207.out; have hnc10 := NB207_205.out; have hcz11_0 : w8.cell? ⟨gb205, 0, none⟩ = some (.bool a0_0) := (blk_cell BK205.out 0).trans rfl; have hcz11_1 : w8.cell? ⟨gb205, 1, none⟩ = some (.slice A0_1 l0_1.length c0_1) := (blk_cell BK205.out 1).trans rfl; have hfz11_0 := blk_frozen BK205.out 0; have hfz11_1 := blk_frozen BK205.out 1; have hnb12 := NB206_207.out; have hnc12 := NB207_206.out; have hcz13_0 : w8.cell? ⟨gb206, 0, none⟩ = some (.bool a1_0) := (blk_cell BK206.out 0).trans rfl; have hcz13_1 : w8.cell? ⟨gb206, 1, none⟩ = some (.slice A1_1 l1_1.length c1_1) := (blk_cell BK206.out 1).trans rfl; have hfz13_0 := blk_frozen BK206.out 0; have hfz13_1 := blk_frozen BK206.out 1))
  replace BK205 := Aside0.mk (blk_drew BK205.out)
  replace BK206 := Aside0.mk (blk_drew BK206.out)
  replace BK207 := Aside0.mk (blk_drew BK207.out)
  replace HB := Aside0.mk (below_drew1 HB.out)
  refine start_ (n := 9) (S := fun w' => w'.cell? ⟨gb205, 0, none⟩ = some (.bool a0_0) ∧ w'.cell? ⟨gb205, 1, none⟩ = some (.slice A0_1 l0_1.length c0_1) ∧ w'.cell? ⟨gb206, 0, none⟩ = some (.bool a1_0) ∧ w'.cell? ⟨gb206, 1, none⟩ = some (.slice A1_1 l1_1.length c1_1)) (ds := []) #[false, false, false, false, false, false, false, false, false] (by kernel_rfl) rfl rfl ⟨(blk_cell BK205.out 0).trans rfl, (blk_cell BK205.out 1).trans rfl, (blk_cell BK206.out 0).trans rfl, (blk_cell BK206.out 1).trans rfl⟩ (fun hHeld => ?_); refine with_tabW integer_Add.tab2 integer_Add.bits2 (fun HT_ HW_ => ?_)
  generalize w8.drew = w14 at BK205 BK206 BK207 HB hHeld ⊢
  refine pu_ 0 (some 11) (bs 1 8) HT_.out ?_
  refine pu_ 2 (some 13) #[true, false, true, false, false, false, false, false, false] HT_.out ?_
  refine pu_ 4 (some 15) #[true, false, true, false, true, false, false, false, false] HT_.out ?_
  refine take_ (i := 1) (N := some 12) (v := ?_) (a' := ?_) #[true, true, true, false, true, false, false, false, false] rfl rfl (take_ofW HT_.out HW_.out (by kernel_rfl)) (fun _ _ _ h => h) (Or.inl ⟨by rfl, ?_⟩) hHeld ?_ ?_
  rotate_left
  ·
   rintro w' ⟨s0, s1, s2, s3⟩
   go_simp
   with_reducible rfl
  rotate_left
  ·
   simp only [Act.put, List.setIfInBounds_toArray, List.set_cons_zero, List.set_cons_succ, i64_w, i32_w]
   rfl
  refine take_ (i := 3) (N := some 14) (v := ?_) (a' := ?_) #[true, true, true, true, true, false, false, false, false] rfl rfl (take_ofW HT_.out HW_.out (by kernel_rfl)) (fun _ _ _ h => h) (Or.inl ⟨by rfl, ?_⟩) hHeld ?_ ?_
  rotate_left
  ·
   rintro w' ⟨s0, s1, s2, s3⟩
   go_simp
   with_reducible rfl
  rotate_left
  ·
   simp only [Act.put, List.setIfInBounds_toArray, List.set_cons_zero, List.set_cons_succ, i64_w, i32_w]
   rfl
  refine take_ (i := 5) (N := some 16) (v := ?_) (a' := ?_) #[true, true, true, true, true, true, false, false, false] rfl rfl (take_ofW HT_.out HW_.out (by kernel_rfl)) (fun _ _ _ h => h) (Or.inl ⟨by rfl, ?_⟩) hHeld ?_ ?_
  rotate_left
  ·
   rintro w' ⟨s0, s1, s2, s3⟩
   go_simp
   with_reducible rfl
  rotate_left
  ·
   simp only [Act.put, List.setIfInBounds_toArray, List.set_cons_zero, List.set_cons_succ, i64_w, i32_w]
   rfl
  refine one_ (i := 6) (N := some 17) #[true, true, true, true, true, true, true, false, false] rfl rfl (one_of HT_.out (by kernel_rfl)) (by decide) (fun K hK => ?_)
  refine goes_ Tryd.func63 (by kernel_rfl) rfl #[.slice A0_1 l0_1.length c0_1, .slice A1_1 l1_1.length c1_1] (by rfl) rfl rfl (by (try simp only [List.map_toArray, List.map_cons, List.map_nil]); first | done | rfl | (simp only [List.length_drop, List.length_take]; rfl)) ?_
  with_reducible refine (integer_plus.calls k _ _ l0_1 _ _ l1_1 t208 _ ?side1 ?side2 ?side3 ?side4 A4.out).mono ?_
  (case side1 => repeat (first | exact (Kd.C_below HR0_1.out HB.out) | (with_reducible refine Kd.C_alloc ?_ _) | (with_reducible refine Kd.C_drewN ?_ _) | (with_reducible refine Kd.C_drew ?_)))
  (case side2 => exact HC0_1.out)
  (case side3 => repeat (first | exact (Kd.C_below HR1_1.out HB.out) | (with_reducible refine Kd.C_alloc ?_ _) | (with_reducible refine Kd.C_drewN ?_ _) | (with_reducible refine Kd.C_drew ?_)))
  (case side4 => exact HC1_1.out)
  rintro e w15 ⟨v209, rfl, ho0, hb⟩
  refine ⟨_, rfl, ?_⟩
  have HO210 := Aside0.mk (Kd.R_lower (Kd.R_newM (M := fun k_ => (w.heap.size ≤ k_)) ho0 (below_size (by with_reducible repeat first | exact HB.out | apply below_alloc | apply pw_below_drewN | apply below_drew1 | refine below_set ?_ GE205.out | refine below_set ?_ GE206.out | refine below_set ?_ GE207.out)) (fun k_ h_ => h_)) (below_size (by with_reducible repeat first | exact HB.out | apply below_alloc | apply pw_below_drewN | apply below_drew1 | refine below_set ?_ GE205.out | refine below_set ?_ GE206.out | refine below_set ?_ GE207.out)))
  replace BK205 := Aside0.mk (blk_below (blk_up BK205.out) hb)
  replace BK206 := Aside0.mk (blk_below (blk_up BK206.out) hb)
  replace BK207 := Aside0.mk (blk_below (blk_up BK207.out) hb)
  replace HB := Aside0.mk (below_step (by with_reducible repeat first | exact HB.out | apply below_alloc | apply pw_below_drewN | apply below_drew1 | refine below_set ?_ GE205.out | refine below_set ?_ GE206.out | refine below_set ?_ GE207.out) hb)
  (try clear hb)
  (try clear hb2)
  (try clear hk)
  (try clear hi)
  (try clear ho0)
  obtain ⟨Ao16, co16, eo16⟩ := Kd.R_slice HO210.out
  (first | subst eo16 | (injection eo16 with f1_ f2_ f3_; have f4_ := f1_.symm; have f5_ := f3_.symm; clear f1_ f2_ f3_; subst f4_; subst f5_))
  refine hK.out _ _ ⟨(blk_cell BK205.out 0).trans rfl, (blk_cell BK205.out 1).trans rfl, (blk_cell BK206.out 0).trans rfl, (blk_cell BK206.out 1).trans rfl⟩ (fun hHeld => ?_)
  clear hK K
  refine norm_ (a' := ?_) ?_ ?_
  rotate_left
  ·
   show Act.put _ (some 17) _ = _
   simp only [Act.put, List.setIfInBounds_toArray, List.set_cons_zero, List.set_cons_succ, i64_w, i32_w]
   rfl
  refine one_ (i := 7) (N := some 18) #[true, true, true, true, true, true, true, true, false] rfl rfl (one_of HT_.out (by kernel_rfl)) (by decide) (fun K hK => ?_)
  refine goes_ Tryd.func45 (by kernel_rfl) rfl #[.bool a0_0, .slice Ao16 t208.length co16] (by rfl) rfl rfl (by (try simp only [List.map_toArray, List.map_cons, List.map_nil]); first | done | rfl | (simp only [List.length_drop, List.length_take]; rfl)) ?_
  with_reducible refine (integer_signed.calls k a0_0 (fun k_ => some k_ = (.slice Ao16 t208.length co16 : Value).ownBlock) _ _ t208 t211 t212 _ ?side1 A5.out).mono ?_
  (case side1 => exact Kd.R_V (Kd.R_tight rfl (Kd.R_types (Kd.R_types (Kd.R_types (HO210.out) BK205.out (by decide)) BK206.out (by decide)) BK207.out (by decide))))
  rintro e w17 ⟨v213, rfl, ho0, hb⟩
  refine ⟨_, rfl, ?_⟩
  have n1_ := Aside0.mk (Kd.V_lower (Kd.V_mono (ok' := fun k_ => (w.heap.size ≤ k_) ∧ k_ ≠ gb205 ∧ k_ ≠ gb206 ∧ k_ ≠ gb207) ho0 (fun k_ hk_ => ⟨Or.elim hk_ (fun hs_ => ((Kd.R_types (Kd.R_types (Kd.R_types (HO210.out) BK205.out (by decide)) BK206.out (by decide)) BK207.out (by decide)).1 k_ hs_.symm).1.1.1.1) (fun hn_ => (Nat.le_trans (below_size (by with_reducible repeat first | exact HB.out | apply below_alloc | apply pw_below_drewN | apply below_drew1 | refine below_set ?_ GE205.out | refine below_set ?_ GE206.out | refine below_set ?_ GE207.out)) hn_)), Or.elim hk_ (fun hs_ => ((Kd.R_types (Kd.R_types (Kd.R_types (HO210.out) BK205.out (by decide)) BK206.out (by decide)) BK207.out (by decide)).1 k_ hs_.symm).1.1.2) (fun hn_ => (Kd.freshB (g := gb205) (o := .cells #[.bool a0_0, .slice A0_1 l0_1.length c0_1] 25 (0, 0)) (blk_up BK205.out) k_ hn_)), Or.elim hk_ (fun hs_ => ((Kd.R_types (Kd.R_types (Kd.R_types (HO210.out) BK205.out (by decide)) BK206.out (by decide)) BK207.out (by decide)).1 k_ hs_.symm).1.2) (fun hn_ => (Kd.freshB (g := gb206) (o := .cells #[.bool a1_0, .slice A1_1 l1_1.length c1_1] 25 (0, 0)) (blk_up BK206.out) k_ hn_)), Or.elim hk_ (fun hs_ => ((Kd.R_types (Kd.R_types (Kd.R_types (HO210.out) BK205.out (by decide)) BK206.out (by decide)) BK207.out (by decide)).1 k_ hs_.symm).2) (fun hn_ => (Kd.freshB (g := gb207) (o := .cells #[.bool false, .slice none 0 0] 25 (0, 0)) (blk_up BK207.out) k_ hn_))⟩)) (below_size (by with_reducible repeat first | exact HB.out | apply below_alloc | apply pw_below_drewN | apply below_drew1 | refine below_set ?_ GE205.out | refine below_set ?_ GE206.out | refine below_set ?_ GE207.out)))
  have n2_ := Aside0.mk (blk_below (blk_up BK205.out) hb)
  have n3_ := Aside0.mk (blk_below (blk_up BK206.out) hb)
  have n4_ := Aside0.mk (blk_below (blk_up BK207.out) hb)
  have n5_ := Aside0.mk (below_step (by with_reducible repeat first | exact HB.out | apply below_alloc | apply pw_below_drewN | apply below_drew1 | refine below_set ?_ GE205.out | refine below_set ?_ GE206.out | refine below_set ?_ GE207.out) hb)
  (try clear HO210)
  clear BK205
  clear BK206
  clear BK207
  clear HB
  have HO214 := n1_
  have BK205 := n2_
  have BK206 := n3_
  have BK207 := n4_
  have HB := n5_
  clear n1_ n2_ n3_ n4_ n5_
  (try clear hb)
  (try clear hb2)
  (try clear hk)
  (try clear hi)
  (try clear ho0)
  obtain ⟨Ao19, co19, eo19⟩ := Kd.V_slice HO214.out
  (first | subst eo19 | (injection eo19 with f1_ f2_ f3_; have f4_ := f1_.symm; have f5_ := f3_.symm; clear f1_ f2_ f3_; subst f4_; subst f5_))
  refine hK.out _ _ ⟨(blk_cell BK205.out 0).trans rfl, (blk_cell BK205.out 1).trans rfl, (blk_cell BK206.out 0).trans rfl, (blk_cell BK206.out 1).trans rfl⟩ (fun hHeld => ?_)
  clear hK K
  refine norm_ (a' := ?_) ?_ ?_
  rotate_left
  ·
   show Act.put _ (some 18) _ = _
   simp only [Act.put, List.setIfInBounds_toArray, List.set_cons_zero, List.set_cons_succ, i64_w, i32_w]
   rfl
  refine one_ (i := 8) (N := none) #[true, true, true, true, true, true, true, true, true] rfl rfl (one_of HT_.out (by kernel_rfl)) (by decide) (fun K hK => ?_)
  have hs18 : w17.cell? ⟨gb207, 0, none⟩ = some (.bool false) := (blk_cell BK207.out 0).trans rfl
  have hfs18 := blk_frozen BK207.out 0
  have hns18_0 := NB205_207.out
  have hns18_1 := NB206_207.out
  have hms18_0 := NB207_205.out
  have hms18_1 := NB207_206.out
  have hs20 : w17.cell? ⟨gb207, 1, none⟩ = some (.slice none 0 0) := (blk_cell BK207.out 1).trans rfl
  have hfs20 := blk_frozen BK207.out 1
  have hns20_0 := NB205_207.out
  have hns20_1 := NB206_207.out
  have hms20_0 := NB207_205.out
  have hms20_1 := NB207_206.out
  refine skip_ (w1 := ?_) (by rfl) rfl ?_ ?_
  rotate_left
  ·
   go_simp
   rfl
  refine hK.out _ _ ⟨((cell_far (p := ⟨gb207, _, none⟩) NB205_207.out _).trans (((cell_far (p := ⟨gb207, _, none⟩) NB205_207.out _).trans (hHeld.1)))), ((cell_far (p := ⟨gb207, _, none⟩) NB205_207.out _).trans (((cell_far (p := ⟨gb207, _, none⟩) NB205_207.out _).trans (hHeld.2.1)))), ((cell_far (p := ⟨gb207, _, none⟩) NB206_207.out _).trans (((cell_far (p := ⟨gb207, _, none⟩) NB206_207.out _).trans (hHeld.2.2.1)))), ((cell_far (p := ⟨gb207, _, none⟩) NB206_207.out _).trans (((cell_far (p := ⟨gb207, _, none⟩) NB206_207.out _).trans (hHeld.2.2.2))))⟩ (fun hHeld => ?_)
  clear hK K
  refine done_ (done_of HT_.out (by kernel_rfl)) ?_
  try go_wp2
  refine bodyPost_ret (results_cell_row rfl _ _ gb207 25 #[.bool t211, .slice Ao19 t212.length co19] (0, 0) _ rfl (by refine blk_ups ?_; refine blk_put (cs := #[.bool t211, .slice none 0 0]) ?_ 1 _ rfl; refine blk_ups ?_; refine blk_put (cs := #[.bool false, .slice none 0 0]) ?_ 0 _ rfl; exact blk_up BK207.out) Tryd.underlying25 rfl (by kernel_rfl)) rfl ?_
  exact ⟨_, by first | rfl | (simp [errW_none, errW_some] <;> rfl) | (simp [*, errW_none, errW_some] <;> rfl), Kd.V_up (Kd.V_mono (Kd.V_far (p := ⟨gb207, 1, none⟩) (Kd.V_far (p := ⟨gb207, 0, none⟩) (Kd.V_mono HO214.out (fun k_ hk => (⟨hk, hk.2.2.2⟩ : _ ∧ k_ ≠ gb207))) (fun _ hk => hk.2) (.bool t211)) (fun _ hk => hk.2) (.slice Ao19 t212.length co19)) (fun _ hk => hk.1.1)), by with_reducible repeat first | exact HB.out | apply below_alloc | apply pw_below_drewN | apply below_drew1 | refine below_set ?_ GE205.out | refine below_set ?_ GE206.out | refine below_set ?_ GE207.out⟩
 ·
  rw [if_neg c3] at H
  have c3b0 : (a0_0 == a1_0) = false := by simpa using c3
  (try (have c3b1 : decide (a0_0 = a1_0) = false := by simpa using c3))
  (try (have c3b2 : (a0_0 == a1_0) = false := by simpa using c3))
  (try (have c3b3 : ¬ (a0_0 = a1_0) := by simpa using c3))
  clear c3
  replace H := Option.bind_eq_some_iff.mp H
  obtain ⟨t215, A210, H⟩ := H
  try dsimp only at H
  have A21 := Aside0.mk A210
  clear A210
  by_cases c22 : t215 ≥ 0
  ·
   rw [if_pos c22] at H
   have c22b0 := decide_eq_true c22
   clear c22
   replace H := Option.bind_eq_some_iff.mp H
   obtain ⟨t216, A230, H⟩ := H
   try dsimp only at H
   have A23 := Aside0.mk A230
   clear A230
   replace H := Option.bind_eq_some_iff.mp H
   obtain ⟨⟨t219, t220⟩, A240, H⟩ := H
   try dsimp only at H
   have A24 := Aside0.mk A240
   clear A240
   simp only [Option.some.injEq, Prod.mk.injEq] at H
   obtain ⟨rfl, rfl⟩ := H
   go_enter Tryd.func35, Tryd.ntmps35
   try go_wp2_with (first | ((with_reducible refine gate_dst (N := 2) rfl ?_); refine box_event ?hg (N := 2) ?hd (cs := #[.bool a0_0, .slice A0_1 l0_1.length c0_1]) (t := 25) ?hr ?_; (case hd => rfl); (case hg => rfl); (case hr => first | (go_simp; done) | (go_simp; rfl)); intro gb205 hg w25 hbox hb; have BK205 := Aside0.mk (hbox); have GE205 := Aside0.mk ((size_up hg HB.out : w.heap.size ≤ gb205)); replace HB := Aside0.mk (below_step (below_up HB.out) hb); clear hb hbox hg) | ((with_reducible refine gate_dst (N := 3) rfl ?_); refine box_event ?hg (N := 3) ?hd (cs := #[.bool a1_0, .slice A1_1 l1_1.length c1_1]) (t := 25) ?hr ?_; (case hd => rfl); (case hg => rfl); (case hr => first | (go_simp; done) | (go_simp; rfl)); intro gb206 hg w26 hbox hb; have BK206 := Aside0.mk (hbox); have GE206 := Aside0.mk ((by rw [hg]; exact (below_size (by with_reducible repeat first | exact HB.out | apply below_alloc | apply pw_below_drewN | apply below_drew1 | refine below_set ?_ GE205.out)) : w.heap.size ≤ gb206)); replace HB := Aside0.mk (below_step (by with_reducible repeat first | exact HB.out | apply below_alloc | apply pw_below_drewN | apply below_drew1 | refine below_set ?_ GE205.out) hb); have NB205_206 := Aside0.mk ((blk_nw hg BK205.out : gb205 ≠ gb206)); have NB206_205 := Aside0.mk ((nw_blk hg BK205.out : gb206 ≠ gb205)); replace BK205 := Aside0.mk (blk_below (blk_up BK205.out) hb); clear hb hbox hg) | ((with_reducible refine gate_dst (N := 4) rfl ?_); refine box_event ?hg (N := 4) ?hd (cs := #[.bool false, .slice none 0 0]) (t := 25) ?hr ?_; (case hd => rfl); (case hg => rfl); (case hr => first | (go_simp; done) | (go_simp; rfl)); intro gb207 hg w27 hbox hb; have BK207 := Aside0.mk (hbox); have GE207 := Aside0.mk ((by rw [hg]; exact (below_size (by with_reducible repeat first | exact HB.out | apply below_alloc | apply pw_below_drewN | apply below_drew1 | refine below_set ?_ GE205.out | refine below_set ?_ GE206.out)) : w.heap.size ≤ gb207)); replace HB := Aside0.mk (below_step (by with_reducible repeat first | exact HB.out | apply below_alloc | apply pw_below_drewN | apply below_drew1 | refine below_set ?_ GE205.out | refine below_set ?_ GE206.out) hb); have NB205_207 := Aside0.mk ((blk_nw hg BK205.out : gb205 ≠ gb207)); have NB207_205 := Aside0.mk ((nw_blk hg BK205.out : gb207 ≠ gb205)); replace BK205 := Aside0.mk (blk_below (blk_up BK205.out) hb); have NB206_207 := Aside0.mk ((blk_nw hg BK206.out : gb206 ≠ gb207)); have NB207_206 := Aside0.mk ((nw_blk hg BK206.out : gb207 ≠ gb206)); replace BK206 := Aside0.mk (blk_below (blk_up BK206.out) hb); clear hb hbox hg; have hnb28 := NB205_206.out; have hnc28 := NB206_205.out; have hnb29 := NB205_207.out; have hnc29 := NB207_205.out; have hcz30_0 : w27.cell? ⟨gb205, 0, none⟩ = some (.bool a0_0) := (blk_cell BK205.out 0).trans rfl; have hcz30_1 : w27.cell? ⟨gb205, 1, none⟩ = some (.slice A0_1 l0_1.length c0_1) := (blk_cell BK205.out 1).trans rfl; have hfz30_0 := blk_frozen BK205.out 0; have hfz30_1 := blk_frozen BK205.out 1; have hnb31 := NB206_207.out; have hnc31 := NB207_206.out; have hcz32_0 : w27.cell? ⟨gb206, 0, none⟩ = some (.bool a1_0) := (blk_cell BK206.out 0).trans rfl; have hcz32_1 : w27.cell? ⟨gb206, 1, none⟩ = some (.slice A1_1 l1_1.length c1_1) := (blk_cell BK206.out 1).trans rfl; have hfz32_0 := blk_frozen BK206.out 0; have hfz32_1 := blk_frozen BK206.out 1) | ((with_reducible refine gate_callee (f := 52) rfl ?_); refine gl_ (some 24) Tryd.func52 #[.slice A0_1 l0_1.length c0_1, .slice A1_1 l1_1.length c1_1] ?_; (with_reducible refine (integer_order.calls k _ _ l0_1 _ _ l1_1 t215 _ ?side1 ?side2 ?side3 ?side4 A21.out).mono ?_); (case side1 => repeat (first | exact (Kd.C_below HR0_1.out HB.out) | (with_reducible refine Kd.C_alloc ?_ _) | (with_reducible refine Kd.C_drewN ?_ _) | (with_reducible refine Kd.C_drew ?_))); (case side2 => exact HC0_1.out); (case side3 => repeat (first | exact (Kd.C_below HR1_1.out HB.out) | (with_reducible refine Kd.C_alloc ?_ _) | (with_reducible refine Kd.C_drewN ?_ _) | (with_reducible refine Kd.C_drew ?_))); (case side4 => exact HC1_1.out); rintro e w' ⟨rfl, ⟨nd, rfl⟩⟩; refine ⟨_, rfl, ?_⟩; (try (rw [drewN_self w27]; generalize hq_ : World.drewN w27 _ = w27; have n0_ : Aside0 (w27.heap[gb205]? = some (.cells #[.bool a0_0, .slice A0_1 l0_1.length c0_1] 25 (0, 0))) := ⟨by rw [← hq_]; exact (blk_up BK205.out)⟩; have n1_ : Aside0 (w27.heap[gb206]? = some (.cells #[.bool a1_0, .slice A1_1 l1_1.length c1_1] 25 (0, 0))) := ⟨by rw [← hq_]; exact (blk_up BK206.out)⟩; have n2_ : Aside0 (w27.heap[gb207]? = some (.cells #[.bool false, .slice none 0 0] 25 (0, 0))) := ⟨by rw [← hq_]; exact (blk_up BK207.out)⟩; have n3_ : Aside0 (Below w.heap.size w w27) := ⟨by rw [← hq_]; exact (by with_reducible repeat first | exact HB.out | apply below_alloc | apply pw_below_drewN | apply below_drew1 | refine below_set ?_ GE205.out | refine below_set ?_ GE206.out | refine below_set ?_ GE207.out)⟩; clear BK205 BK206 BK207 HB hq_; have BK205 := n0_; have BK206 := n1_; have BK207 := n2_; have HB := n3_; clear n0_ n1_ n2_ n3_))))
   replace BK205 := Aside0.mk (blk_drew BK205.out)
   replace BK206 := Aside0.mk (blk_drew BK206.out)
   replace BK207 := Aside0.mk (blk_drew BK207.out)
   replace HB := Aside0.mk (below_drew1 HB.out)
   refine start_ (n := 9) (S := fun w' => w'.cell? ⟨gb205, 0, none⟩ = some (.bool a0_0) ∧ w'.cell? ⟨gb205, 1, none⟩ = some (.slice A0_1 l0_1.length c0_1) ∧ w'.cell? ⟨gb206, 0, none⟩ = some (.bool a1_0) ∧ w'.cell? ⟨gb206, 1, none⟩ = some (.slice A1_1 l1_1.length c1_1)) (ds := []) #[false, false, false, false, false, false, false, false, false] (by kernel_rfl) rfl rfl ⟨(blk_cell BK205.out 0).trans rfl, (blk_cell BK205.out 1).trans rfl, (blk_cell BK206.out 0).trans rfl, (blk_cell BK206.out 1).trans rfl⟩ (fun hHeld => ?_); refine with_tabW integer_Add.tab4 integer_Add.bits4 (fun HT_ HW_ => ?_)
   generalize w27.drew = w33 at BK205 BK206 BK207 HB hHeld ⊢
   refine pu_ 0 (some 26) (bs 1 8) HT_.out ?_
   refine pu_ 2 (some 28) #[true, false, true, false, false, false, false, false, false] HT_.out ?_
   refine pu_ 4 (some 30) #[true, false, true, false, true, false, false, false, false] HT_.out ?_
   refine take_ (i := 1) (N := some 27) (v := ?_) (a' := ?_) #[true, true, true, false, true, false, false, false, false] rfl rfl (take_ofW HT_.out HW_.out (by kernel_rfl)) (fun _ _ _ h => h) (Or.inl ⟨by rfl, ?_⟩) hHeld ?_ ?_
   rotate_left
   ·
    rintro w' ⟨s0, s1, s2, s3⟩
    go_simp
    with_reducible rfl
   rotate_left
   ·
    simp only [Act.put, List.setIfInBounds_toArray, List.set_cons_zero, List.set_cons_succ, i64_w, i32_w]
    rfl
   refine take_ (i := 3) (N := some 29) (v := ?_) (a' := ?_) #[true, true, true, true, true, false, false, false, false] rfl rfl (take_ofW HT_.out HW_.out (by kernel_rfl)) (fun _ _ _ h => h) (Or.inl ⟨by rfl, ?_⟩) hHeld ?_ ?_
   rotate_left
   ·
    rintro w' ⟨s0, s1, s2, s3⟩
    go_simp
    with_reducible rfl
   rotate_left
   ·
    simp only [Act.put, List.setIfInBounds_toArray, List.set_cons_zero, List.set_cons_succ, i64_w, i32_w]
    rfl
   refine take_ (i := 5) (N := some 31) (v := ?_) (a' := ?_) #[true, true, true, true, true, true, false, false, false] rfl rfl (take_ofW HT_.out HW_.out (by kernel_rfl)) (fun _ _ _ h => h) (Or.inl ⟨by rfl, ?_⟩) hHeld ?_ ?_
   rotate_left
   ·
    rintro w' ⟨s0, s1, s2, s3⟩
    go_simp
    with_reducible rfl
   rotate_left
   ·
    simp only [Act.put, List.setIfInBounds_toArray, List.set_cons_zero, List.set_cons_succ, i64_w, i32_w]
    rfl
   refine one_ (i := 6) (N := some 32) #[true, true, true, true, true, true, true, false, false] rfl rfl (one_of HT_.out (by kernel_rfl)) (by decide) (fun K hK => ?_)
   refine goes_ Tryd.func64 (by kernel_rfl) rfl #[.slice A0_1 l0_1.length c0_1, .slice A1_1 l1_1.length c1_1] (by rfl) rfl rfl (by (try simp only [List.map_toArray, List.map_cons, List.map_nil]); first | done | rfl | (simp only [List.length_drop, List.length_take]; rfl)) ?_
   with_reducible refine (integer_minus.calls k _ _ l0_1 _ _ l1_1 t216 _ ?side1 ?side2 ?side3 ?side4 A23.out).mono ?_
   (case side1 => repeat (first | exact (Kd.C_below HR0_1.out HB.out) | (with_reducible refine Kd.C_alloc ?_ _) | (with_reducible refine Kd.C_drewN ?_ _) | (with_reducible refine Kd.C_drew ?_)))
   (case side2 => exact HC0_1.out)
   (case side3 => repeat (first | exact (Kd.C_below HR1_1.out HB.out) | (with_reducible refine Kd.C_alloc ?_ _) | (with_reducible refine Kd.C_drewN ?_ _) | (with_reducible refine Kd.C_drew ?_)))
   (case side4 => exact HC1_1.out)
   rintro e w34 ⟨v217, rfl, ho0, hb⟩
   refine ⟨_, rfl, ?_⟩
   have HO218 := Aside0.mk (Kd.R_lower (Kd.R_newM (M := fun k_ => (w.heap.size ≤ k_)) ho0 (below_size (by with_reducible repeat first | exact HB.out | apply below_alloc | apply pw_below_drewN | apply below_drew1 | refine below_set ?_ GE205.out | refine below_set ?_ GE206.out | refine below_set ?_ GE207.out)) (fun k_ h_ => h_)) (below_size (by with_reducible repeat first | exact HB.out | apply below_alloc | apply pw_below_drewN | apply below_drew1 | refine below_set ?_ GE205.out | refine below_set ?_ GE206.out | refine below_set ?_ GE207.out)))
   replace BK205 := Aside0.mk (blk_below (blk_up BK205.out) hb)
   replace BK206 := Aside0.mk (blk_below (blk_up BK206.out) hb)
   replace BK207 := Aside0.mk (blk_below (blk_up BK207.out) hb)
   replace HB := Aside0.mk (below_step (by with_reducible repeat first | exact HB.out | apply below_alloc | apply pw_below_drewN | apply below_drew1 | refine below_set ?_ GE205.out | refine below_set ?_ GE206.out | refine below_set ?_ GE207.out) hb)
   (try clear hb)
   (try clear hb2)
   (try clear hk)
   (try clear hi)
   (try clear ho0)
   obtain ⟨Ao35, co35, eo35⟩ := Kd.R_slice HO218.out
   (first | subst eo35 | (injection eo35 with f1_ f2_ f3_; have f4_ := f1_.symm; have f5_ := f3_.symm; clear f1_ f2_ f3_; subst f4_; subst f5_))
   refine hK.out _ _ ⟨(blk_cell BK205.out 0).trans rfl, (blk_cell BK205.out 1).trans rfl, (blk_cell BK206.out 0).trans rfl, (blk_cell BK206.out 1).trans rfl⟩ (fun hHeld => ?_)
   clear hK K
   refine norm_ (a' := ?_) ?_ ?_
   rotate_left
   ·
    show Act.put _ (some 32) _ = _
    simp only [Act.put, List.setIfInBounds_toArray, List.set_cons_zero, List.set_cons_succ, i64_w, i32_w]
    rfl
   refine one_ (i := 7) (N := some 33) #[true, true, true, true, true, true, true, true, false] rfl rfl (one_of HT_.out (by kernel_rfl)) (by decide) (fun K hK => ?_)
   refine goes_ Tryd.func45 (by kernel_rfl) rfl #[.bool a0_0, .slice Ao35 t216.length co35] (by rfl) rfl rfl (by (try simp only [List.map_toArray, List.map_cons, List.map_nil]); first | done | rfl | (simp only [List.length_drop, List.length_take]; rfl)) ?_
   with_reducible refine (integer_signed.calls k a0_0 (fun k_ => some k_ = (.slice Ao35 t216.length co35 : Value).ownBlock) _ _ t216 t219 t220 _ ?side1 A24.out).mono ?_
   (case side1 => exact Kd.R_V (Kd.R_tight rfl (Kd.R_types (Kd.R_types (Kd.R_types (HO218.out) BK205.out (by decide)) BK206.out (by decide)) BK207.out (by decide))))
   rintro e w36 ⟨v221, rfl, ho0, hb⟩
   refine ⟨_, rfl, ?_⟩
   have n1_ := Aside0.mk (Kd.V_lower (Kd.V_mono (ok' := fun k_ => (w.heap.size ≤ k_) ∧ k_ ≠ gb205 ∧ k_ ≠ gb206 ∧ k_ ≠ gb207) ho0 (fun k_ hk_ => ⟨Or.elim hk_ (fun hs_ => ((Kd.R_types (Kd.R_types (Kd.R_types (HO218.out) BK205.out (by decide)) BK206.out (by decide)) BK207.out (by decide)).1 k_ hs_.symm).1.1.1.1) (fun hn_ => (Nat.le_trans (below_size (by with_reducible repeat first | exact HB.out | apply below_alloc | apply pw_below_drewN | apply below_drew1 | refine below_set ?_ GE205.out | refine below_set ?_ GE206.out | refine below_set ?_ GE207.out)) hn_)), Or.elim hk_ (fun hs_ => ((Kd.R_types (Kd.R_types (Kd.R_types (HO218.out) BK205.out (by decide)) BK206.out (by decide)) BK207.out (by decide)).1 k_ hs_.symm).1.1.2) (fun hn_ => (Kd.freshB (g := gb205) (o := .cells #[.bool a0_0, .slice A0_1 l0_1.length c0_1] 25 (0, 0)) (blk_up BK205.out) k_ hn_)), Or.elim hk_ (fun hs_ => ((Kd.R_types (Kd.R_types (Kd.R_types (HO218.out) BK205.out (by decide)) BK206.out (by decide)) BK207.out (by decide)).1 k_ hs_.symm).1.2) (fun hn_ => (Kd.freshB (g := gb206) (o := .cells #[.bool a1_0, .slice A1_1 l1_1.length c1_1] 25 (0, 0)) (blk_up BK206.out) k_ hn_)), Or.elim hk_ (fun hs_ => ((Kd.R_types (Kd.R_types (Kd.R_types (HO218.out) BK205.out (by decide)) BK206.out (by decide)) BK207.out (by decide)).1 k_ hs_.symm).2) (fun hn_ => (Kd.freshB (g := gb207) (o := .cells #[.bool false, .slice none 0 0] 25 (0, 0)) (blk_up BK207.out) k_ hn_))⟩)) (below_size (by with_reducible repeat first | exact HB.out | apply below_alloc | apply pw_below_drewN | apply below_drew1 | refine below_set ?_ GE205.out | refine below_set ?_ GE206.out | refine below_set ?_ GE207.out)))
   have n2_ := Aside0.mk (blk_below (blk_up BK205.out) hb)
   have n3_ := Aside0.mk (blk_below (blk_up BK206.out) hb)
   have n4_ := Aside0.mk (blk_below (blk_up BK207.out) hb)
   have n5_ := Aside0.mk (below_step (by with_reducible repeat first | exact HB.out | apply below_alloc | apply pw_below_drewN | apply below_drew1 | refine below_set ?_ GE205.out | refine below_set ?_ GE206.out | refine below_set ?_ GE207.out) hb)
   (try clear HO218)
   clear BK205
   clear BK206
   clear BK207
   clear HB
   have HO222 := n1_
   have BK205 := n2_
   have BK206 := n3_
   have BK207 := n4_
   have HB := n5_
   clear n1_ n2_ n3_ n4_ n5_
   (try clear hb)
   (try clear hb2)
   (try clear hk)
   (try clear hi)
   (try clear ho0)
   obtain ⟨Ao38, co38, eo38⟩ := Kd.V_slice HO222.out
   (first | subst eo38 | (injection eo38 with f1_ f2_ f3_; have f4_ := f1_.symm; have f5_ := f3_.symm; clear f1_ f2_ f3_; subst f4_; subst f5_))
   refine hK.out _ _ ⟨(blk_cell BK205.out 0).trans rfl, (blk_cell BK205.out 1).trans rfl, (blk_cell BK206.out 0).trans rfl, (blk_cell BK206.out 1).trans rfl⟩ (fun hHeld => ?_)
   clear hK K
   refine norm_ (a' := ?_) ?_ ?_
   rotate_left
   ·
    show Act.put _ (some 33) _ = _
    simp only [Act.put, List.setIfInBounds_toArray, List.set_cons_zero, List.set_cons_succ, i64_w, i32_w]
    rfl
   refine one_ (i := 8) (N := none) #[true, true, true, true, true, true, true, true, true] rfl rfl (one_of HT_.out (by kernel_rfl)) (by decide) (fun K hK => ?_)
   have hs37 : w36.cell? ⟨gb207, 0, none⟩ = some (.bool false) := (blk_cell BK207.out 0).trans rfl
   have hfs37 := blk_frozen BK207.out 0
   have hns37_0 := NB205_207.out
   have hns37_1 := NB206_207.out
   have hms37_0 := NB207_205.out
   have hms37_1 := NB207_206.out
   have hs39 : w36.cell? ⟨gb207, 1, none⟩ = some (.slice none 0 0) := (blk_cell BK207.out 1).trans rfl
   have hfs39 := blk_frozen BK207.out 1
   have hns39_0 := NB205_207.out
   have hns39_1 := NB206_207.out
   have hms39_0 := NB207_205.out
   have hms39_1 := NB207_206.out
   refine skip_ (w1 := ?_) (by rfl) rfl ?_ ?_
   rotate_left
   ·
    go_simp
    rfl
   refine hK.out _ _ ⟨((cell_far (p := ⟨gb207, _, none⟩) NB205_207.out _).trans (((cell_far (p := ⟨gb207, _, none⟩) NB205_207.out _).trans (hHeld.1)))), ((cell_far (p := ⟨gb207, _, none⟩) NB205_207.out _).trans (((cell_far (p := ⟨gb207, _, none⟩) NB205_207.out _).trans (hHeld.2.1)))), ((cell_far (p := ⟨gb207, _, none⟩) NB206_207.out _).trans (((cell_far (p := ⟨gb207, _, none⟩) NB206_207.out _).trans (hHeld.2.2.1)))), ((cell_far (p := ⟨gb207, _, none⟩) NB206_207.out _).trans (((cell_far (p := ⟨gb207, _, none⟩) NB206_207.out _).trans (hHeld.2.2.2))))⟩ (fun hHeld => ?_)
   clear hK K
   refine done_ (done_of HT_.out (by kernel_rfl)) ?_
   try go_wp2
   refine bodyPost_ret (results_cell_row rfl _ _ gb207 25 #[.bool t219, .slice Ao38 t220.length co38] (0, 0) _ rfl (by refine blk_ups ?_; refine blk_put (cs := #[.bool t219, .slice none 0 0]) ?_ 1 _ rfl; refine blk_ups ?_; refine blk_put (cs := #[.bool false, .slice none 0 0]) ?_ 0 _ rfl; exact blk_up BK207.out) Tryd.underlying25 rfl (by kernel_rfl)) rfl ?_
   exact ⟨_, by first | rfl | (simp [errW_none, errW_some] <;> rfl) | (simp [*, errW_none, errW_some] <;> rfl), Kd.V_up (Kd.V_mono (Kd.V_far (p := ⟨gb207, 1, none⟩) (Kd.V_far (p := ⟨gb207, 0, none⟩) (Kd.V_mono HO222.out (fun k_ hk => (⟨hk, hk.2.2.2⟩ : _ ∧ k_ ≠ gb207))) (fun _ hk => hk.2) (.bool t219)) (fun _ hk => hk.2) (.slice Ao38 t220.length co38)) (fun _ hk => hk.1.1)), by with_reducible repeat first | exact HB.out | apply below_alloc | apply pw_below_drewN | apply below_drew1 | refine below_set ?_ GE205.out | refine below_set ?_ GE206.out | refine below_set ?_ GE207.out⟩
  ·
   rw [if_neg c22] at H
   have c22b0 := decide_eq_false c22
   clear c22
   replace H := Option.bind_eq_some_iff.mp H
   obtain ⟨t223, A400, H⟩ := H
   try dsimp only at H
   have A40 := Aside0.mk A400
   clear A400
   replace H := Option.bind_eq_some_iff.mp H
   obtain ⟨⟨t226, t227⟩, A410, H⟩ := H
   try dsimp only at H
   have A41 := Aside0.mk A410
   clear A410
   simp only [Option.some.injEq, Prod.mk.injEq] at H
   obtain ⟨rfl, rfl⟩ := H
   go_enter Tryd.func35, Tryd.ntmps35
   try go_wp2_with (first | ((with_reducible refine gate_dst (N := 2) rfl ?_); refine box_event ?hg (N := 2) ?hd (cs := #[.bool a0_0, .slice A0_1 l0_1.length c0_1]) (t := 25) ?hr ?_; (case hd => rfl); (case hg => rfl); (case hr => first | (go_simp; done) | (go_simp; rfl)); intro gb205 hg w42 hbox hb; have BK205 := Aside0.mk (hbox); have GE205 := Aside0.mk ((size_up hg HB.out : w.heap.size ≤ gb205)); replace HB := Aside0.mk (below_step (below_up HB.out) hb); clear hb hbox hg) | ((with_reducible refine gate_dst (N := 3) rfl ?_); refine box_event ?hg (N := 3) ?hd (cs := #[.bool a1_0, .slice A1_1 l1_1.length c1_1]) (t := 25) ?hr ?_; (case hd => rfl); (case hg => rfl); (case hr => first | (go_simp; done) | (go_simp; rfl)); intro gb206 hg w43 hbox hb; have BK206 := Aside0.mk (hbox); have GE206 := Aside0.mk ((by rw [hg]; exact (below_size (by with_reducible repeat first | exact HB.out | apply below_alloc | apply pw_below_drewN | apply below_drew1 | refine below_set ?_ GE205.out)) : w.heap.size ≤ gb206)); replace HB := Aside0.mk (below_step (by with_reducible repeat first | exact HB.out | apply below_alloc | apply pw_below_drewN | apply below_drew1 | refine below_set ?_ GE205.out) hb); have NB205_206 := Aside0.mk ((blk_nw hg BK205.out : gb205 ≠ gb206)); have NB206_205 := Aside0.mk ((nw_blk hg BK205.out : gb206 ≠ gb205)); replace BK205 := Aside0.mk (blk_below (blk_up BK205.out) hb); clear hb hbox hg) | ((with_reducible refine gate_dst (N := 4) rfl ?_); refine box_event ?hg (N := 4) ?hd (cs := #[.bool false, .slice none 0 0]) (t := 25) ?hr ?_; (case hd => rfl); (case hg => rfl); (case hr => first | (go_simp; done) | (go_simp; rfl)); intro gb207 hg w44 hbox hb; have BK207 := Aside0.mk (hbox); have GE207 := Aside0.mk ((by rw [hg]; exact (below_size (by with_reducible repeat first | exact HB.out | apply below_alloc | apply pw_below_drewN | apply below_drew1 | refine below_set ?_ GE205.out | refine below_set ?_ GE206.out)) : w.heap.size ≤ gb207)); replace HB := Aside0.mk (below_step (by with_reducible repeat first | exact HB.out | apply below_alloc | apply pw_below_drewN | apply below_drew1 | refine below_set ?_ GE205.out | refine below_set ?_ GE206.out) hb); have NB205_207 := Aside0.mk ((blk_nw hg BK205.out : gb205 ≠ gb207)); have NB207_205 := Aside0.mk ((nw_blk hg BK205.out : gb207 ≠ gb205)); replace BK205 := Aside0.mk (blk_below (blk_up BK205.out) hb); have NB206_207 := Aside0.mk ((blk_nw hg BK206.out : gb206 ≠ gb207)); have NB207_206 := Aside0.mk ((nw_blk hg BK206.out : gb207 ≠ gb206)); replace BK206 := Aside0.mk (blk_below (blk_up BK206.out) hb); clear hb hbox hg; have hnb45 := NB205_206.out; have hnc45 := NB206_205.out; have hnb46 := NB205_207.out; have hnc46 := NB207_205.out; have hcz47_0 : w44.cell? ⟨gb205, 0, none⟩ = some (.bool a0_0) := (blk_cell BK205.out 0).trans rfl; have hcz47_1 : w44.cell? ⟨gb205, 1, none⟩ = some (.slice A0_1 l0_1.length c0_1) := (blk_cell BK205.out 1).trans rfl; have hfz47_0 := blk_frozen BK205.out 0; have hfz47_1 := blk_frozen BK205.out 1; have hnb48 := NB206_207.out; have hnc48 := NB207_206.out; have hcz49_0 : w44.cell? ⟨gb206, 0, none⟩ = some (.bool a1_0) := (blk_cell BK206.out 0).trans rfl; have hcz49_1 : w44.cell? ⟨gb206, 1, none⟩ = some (.slice A1_1 l1_1.length c1_1) := (blk_cell BK206.out 1).trans rfl; have hfz49_0 := blk_frozen BK206.out 0; have hfz49_1 := blk_frozen BK206.out 1) | ((with_reducible refine gate_callee (f := 52) rfl ?_); refine gl_ (some 24) Tryd.func52 #[.slice A0_1 l0_1.length c0_1, .slice A1_1 l1_1.length c1_1] ?_; (with_reducible refine (integer_order.calls k _ _ l0_1 _ _ l1_1 t215 _ ?side1 ?side2 ?side3 ?side4 A21.out).mono ?_); (case side1 => repeat (first | exact (Kd.C_below HR0_1.out HB.out) | (with_reducible refine Kd.C_alloc ?_ _) | (with_reducible refine Kd.C_drewN ?_ _) | (with_reducible refine Kd.C_drew ?_))); (case side2 => exact HC0_1.out); (case side3 => repeat (first | exact (Kd.C_below HR1_1.out HB.out) | (with_reducible refine Kd.C_alloc ?_ _) | (with_reducible refine Kd.C_drewN ?_ _) | (with_reducible refine Kd.C_drew ?_))); (case side4 => exact HC1_1.out); rintro e w' ⟨rfl, ⟨nd, rfl⟩⟩; refine ⟨_, rfl, ?_⟩; (try (rw [drewN_self w44]; generalize hq_ : World.drewN w44 _ = w44; have n0_ : Aside0 (w44.heap[gb205]? = some (.cells #[.bool a0_0, .slice A0_1 l0_1.length c0_1] 25 (0, 0))) := ⟨by rw [← hq_]; exact (blk_up BK205.out)⟩; have n1_ : Aside0 (w44.heap[gb206]? = some (.cells #[.bool a1_0, .slice A1_1 l1_1.length c1_1] 25 (0, 0))) := ⟨by rw [← hq_]; exact (blk_up BK206.out)⟩; have n2_ : Aside0 (w44.heap[gb207]? = some (.cells #[.bool false, .slice none 0 0] 25 (0, 0))) := ⟨by rw [← hq_]; exact (blk_up BK207.out)⟩; have n3_ : Aside0 (Below w.heap.size w w44) := ⟨by rw [← hq_]; exact (by with_reducible repeat first | exact HB.out | apply below_alloc | apply pw_below_drewN | apply below_drew1 | refine below_set ?_ GE205.out | refine below_set ?_ GE206.out | refine below_set ?_ GE207.out)⟩; clear BK205 BK206 BK207 HB hq_; have BK205 := n0_; have BK206 := n1_; have BK207 := n2_; have HB := n3_; clear n0_ n1_ n2_ n3_))))
   replace BK205 := Aside0.mk (blk_drew BK205.out)
   replace BK206 := Aside0.mk (blk_drew BK206.out)
   replace BK207 := Aside0.mk (blk_drew BK207.out)
   replace HB := Aside0.mk (below_drew1 HB.out)
   refine start_ (n := 9) (S := fun w' => w'.cell? ⟨gb206, 0, none⟩ = some (.bool a1_0) ∧ w'.cell? ⟨gb206, 1, none⟩ = some (.slice A1_1 l1_1.length c1_1) ∧ w'.cell? ⟨gb205, 0, none⟩ = some (.bool a0_0) ∧ w'.cell? ⟨gb205, 1, none⟩ = some (.slice A0_1 l0_1.length c0_1)) (ds := []) #[false, false, false, false, false, false, false, false, false] (by kernel_rfl) rfl rfl ⟨(blk_cell BK206.out 0).trans rfl, (blk_cell BK206.out 1).trans rfl, (blk_cell BK205.out 0).trans rfl, (blk_cell BK205.out 1).trans rfl⟩ (fun hHeld => ?_); refine with_tabW integer_Add.tab5 integer_Add.bits5 (fun HT_ HW_ => ?_)
   generalize w44.drew = w50 at BK205 BK206 BK207 HB hHeld ⊢
   refine pu_ 0 (some 34) (bs 1 8) HT_.out ?_
   refine pu_ 2 (some 36) #[true, false, true, false, false, false, false, false, false] HT_.out ?_
   refine pu_ 4 (some 38) #[true, false, true, false, true, false, false, false, false] HT_.out ?_
   refine take_ (i := 1) (N := some 35) (v := ?_) (a' := ?_) #[true, true, true, false, true, false, false, false, false] rfl rfl (take_ofW HT_.out HW_.out (by kernel_rfl)) (fun _ _ _ h => h) (Or.inl ⟨by rfl, ?_⟩) hHeld ?_ ?_
   rotate_left
   ·
    rintro w' ⟨s0, s1, s2, s3⟩
    go_simp
    with_reducible rfl
   rotate_left
   ·
    simp only [Act.put, List.setIfInBounds_toArray, List.set_cons_zero, List.set_cons_succ, i64_w, i32_w]
    rfl
   refine take_ (i := 3) (N := some 37) (v := ?_) (a' := ?_) #[true, true, true, true, true, false, false, false, false] rfl rfl (take_ofW HT_.out HW_.out (by kernel_rfl)) (fun _ _ _ h => h) (Or.inl ⟨by rfl, ?_⟩) hHeld ?_ ?_
   rotate_left
   ·
    rintro w' ⟨s0, s1, s2, s3⟩
    go_simp
    with_reducible rfl
   rotate_left
   ·
    simp only [Act.put, List.setIfInBounds_toArray, List.set_cons_zero, List.set_cons_succ, i64_w, i32_w]
    rfl
   refine take_ (i := 5) (N := some 39) (v := ?_) (a' := ?_) #[true, true, true, true, true, true, false, false, false] rfl rfl (take_ofW HT_.out HW_.out (by kernel_rfl)) (fun _ _ _ h => h) (Or.inl ⟨by rfl, ?_⟩) hHeld ?_ ?_
   rotate_left
   ·
    rintro w' ⟨s0, s1, s2, s3⟩
    go_simp
    with_reducible rfl
   rotate_left
   ·
    simp only [Act.put, List.setIfInBounds_toArray, List.set_cons_zero, List.set_cons_succ, i64_w, i32_w]
    rfl
   refine one_ (i := 6) (N := some 40) #[true, true, true, true, true, true, true, false, false] rfl rfl (one_of HT_.out (by kernel_rfl)) (by decide) (fun K hK => ?_)
   refine goes_ Tryd.func64 (by kernel_rfl) rfl #[.slice A1_1 l1_1.length c1_1, .slice A0_1 l0_1.length c0_1] (by rfl) rfl rfl (by (try simp only [List.map_toArray, List.map_cons, List.map_nil]); first | done | rfl | (simp only [List.length_drop, List.length_take]; rfl)) ?_
   with_reducible refine (integer_minus.calls k _ _ l1_1 _ _ l0_1 t223 _ ?side1 ?side2 ?side3 ?side4 A40.out).mono ?_
   (case side1 => repeat (first | exact (Kd.C_below HR1_1.out HB.out) | (with_reducible refine Kd.C_alloc ?_ _) | (with_reducible refine Kd.C_drewN ?_ _) | (with_reducible refine Kd.C_drew ?_)))
   (case side2 => exact HC1_1.out)
   (case side3 => repeat (first | exact (Kd.C_below HR0_1.out HB.out) | (with_reducible refine Kd.C_alloc ?_ _) | (with_reducible refine Kd.C_drewN ?_ _) | (with_reducible refine Kd.C_drew ?_)))
   (case side4 => exact HC0_1.out)
   rintro e w51 ⟨v224, rfl, ho0, hb⟩
   refine ⟨_, rfl, ?_⟩
   have HO225 := Aside0.mk (Kd.R_lower (Kd.R_newM (M := fun k_ => (w.heap.size ≤ k_)) ho0 (below_size (by with_reducible repeat first | exact HB.out | apply below_alloc | apply pw_below_drewN | apply below_drew1 | refine below_set ?_ GE205.out | refine below_set ?_ GE206.out | refine below_set ?_ GE207.out)) (fun k_ h_ => h_)) (below_size (by with_reducible repeat first | exact HB.out | apply below_alloc | apply pw_below_drewN | apply below_drew1 | refine below_set ?_ GE205.out | refine below_set ?_ GE206.out | refine below_set ?_ GE207.out)))
   replace BK205 := Aside0.mk (blk_below (blk_up BK205.out) hb)
   replace BK206 := Aside0.mk (blk_below (blk_up BK206.out) hb)
   replace BK207 := Aside0.mk (blk_below (blk_up BK207.out) hb)
   replace HB := Aside0.mk (below_step (by with_reducible repeat first | exact HB.out | apply below_alloc | apply pw_below_drewN | apply below_drew1 | refine below_set ?_ GE205.out | refine below_set ?_ GE206.out | refine below_set ?_ GE207.out) hb)
   (try clear hb)
   (try clear hb2)
   (try clear hk)
   (try clear hi)
   (try clear ho0)
   obtain ⟨Ao52, co52, eo52⟩ := Kd.R_slice HO225.out
   (first | subst eo52 | (injection eo52 with f1_ f2_ f3_; have f4_ := f1_.symm; have f5_ := f3_.symm; clear f1_ f2_ f3_; subst f4_; subst f5_))
   refine hK.out _ _ ⟨(blk_cell BK206.out 0).trans rfl, (blk_cell BK206.out 1).trans rfl, (blk_cell BK205.out 0).trans rfl, (blk_cell BK205.out 1).trans rfl⟩ (fun hHeld => ?_)
   clear hK K
   refine norm_ (a' := ?_) ?_ ?_
   rotate_left
   ·
    show Act.put _ (some 40) _ = _
    simp only [Act.put, List.setIfInBounds_toArray, List.set_cons_zero, List.set_cons_succ, i64_w, i32_w]
    rfl
   refine one_ (i := 7) (N := some 41) #[true, true, true, true, true, true, true, true, false] rfl rfl (one_of HT_.out (by kernel_rfl)) (by decide) (fun K hK => ?_)
   refine goes_ Tryd.func45 (by kernel_rfl) rfl #[.bool a1_0, .slice Ao52 t223.length co52] (by rfl) rfl rfl (by (try simp only [List.map_toArray, List.map_cons, List.map_nil]); first | done | rfl | (simp only [List.length_drop, List.length_take]; rfl)) ?_
   with_reducible refine (integer_signed.calls k a1_0 (fun k_ => some k_ = (.slice Ao52 t223.length co52 : Value).ownBlock) _ _ t223 t226 t227 _ ?side1 A41.out).mono ?_
   (case side1 => exact Kd.R_V (Kd.R_tight rfl (Kd.R_types (Kd.R_types (Kd.R_types (HO225.out) BK205.out (by decide)) BK206.out (by decide)) BK207.out (by decide))))
   rintro e w53 ⟨v228, rfl, ho0, hb⟩
   refine ⟨_, rfl, ?_⟩
   have n1_ := Aside0.mk (Kd.V_lower (Kd.V_mono (ok' := fun k_ => (w.heap.size ≤ k_) ∧ k_ ≠ gb205 ∧ k_ ≠ gb206 ∧ k_ ≠ gb207) ho0 (fun k_ hk_ => ⟨Or.elim hk_ (fun hs_ => ((Kd.R_types (Kd.R_types (Kd.R_types (HO225.out) BK205.out (by decide)) BK206.out (by decide)) BK207.out (by decide)).1 k_ hs_.symm).1.1.1.1) (fun hn_ => (Nat.le_trans (below_size (by with_reducible repeat first | exact HB.out | apply below_alloc | apply pw_below_drewN | apply below_drew1 | refine below_set ?_ GE205.out | refine below_set ?_ GE206.out | refine below_set ?_ GE207.out)) hn_)), Or.elim hk_ (fun hs_ => ((Kd.R_types (Kd.R_types (Kd.R_types (HO225.out) BK205.out (by decide)) BK206.out (by decide)) BK207.out (by decide)).1 k_ hs_.symm).1.1.2) (fun hn_ => (Kd.freshB (g := gb205) (o := .cells #[.bool a0_0, .slice A0_1 l0_1.length c0_1] 25 (0, 0)) (blk_up BK205.out) k_ hn_)), Or.elim hk_ (fun hs_ => ((Kd.R_types (Kd.R_types (Kd.R_types (HO225.out) BK205.out (by decide)) BK206.out (by decide)) BK207.out (by decide)).1 k_ hs_.symm).1.2) (fun hn_ => (Kd.freshB (g := gb206) (o := .cells #[.bool a1_0, .slice A1_1 l1_1.length c1_1] 25 (0, 0)) (blk_up BK206.out) k_ hn_)), Or.elim hk_ (fun hs_ => ((Kd.R_types (Kd.R_types (Kd.R_types (HO225.out) BK205.out (by decide)) BK206.out (by decide)) BK207.out (by decide)).1 k_ hs_.symm).2) (fun hn_ => (Kd.freshB (g := gb207) (o := .cells #[.bool false, .slice none 0 0] 25 (0, 0)) (blk_up BK207.out) k_ hn_))⟩)) (below_size (by with_reducible repeat first | exact HB.out | apply below_alloc | apply pw_below_drewN | apply below_drew1 | refine below_set ?_ GE205.out | refine below_set ?_ GE206.out | refine below_set ?_ GE207.out)))
   have n2_ := Aside0.mk (blk_below (blk_up BK205.out) hb)
   have n3_ := Aside0.mk (blk_below (blk_up BK206.out) hb)
   have n4_ := Aside0.mk (blk_below (blk_up BK207.out) hb)
   have n5_ := Aside0.mk (below_step (by with_reducible repeat first | exact HB.out | apply below_alloc | apply pw_below_drewN | apply below_drew1 | refine below_set ?_ GE205.out | refine below_set ?_ GE206.out | refine below_set ?_ GE207.out) hb)
   (try clear HO225)
   clear BK205
   clear BK206
   clear BK207
   clear HB
   have HO229 := n1_
   have BK205 := n2_
   have BK206 := n3_
   have BK207 := n4_
   have HB := n5_
   clear n1_ n2_ n3_ n4_ n5_
   (try clear hb)
   (try clear hb2)
   (try clear hk)
   (try clear hi)
   (try clear ho0)
   obtain ⟨Ao55, co55, eo55⟩ := Kd.V_slice HO229.out
   (first | subst eo55 | (injection eo55 with f1_ f2_ f3_; have f4_ := f1_.symm; have f5_ := f3_.symm; clear f1_ f2_ f3_; subst f4_; subst f5_))
   refine hK.out _ _ ⟨(blk_cell BK206.out 0).trans rfl, (blk_cell BK206.out 1).trans rfl, (blk_cell BK205.out 0).trans rfl, (blk_cell BK205.out 1).trans rfl⟩ (fun hHeld => ?_)
   clear hK K
   refine norm_ (a' := ?_) ?_ ?_
   rotate_left
   ·
    show Act.put _ (some 41) _ = _
    simp only [Act.put, List.setIfInBounds_toArray, List.set_cons_zero, List.set_cons_succ, i64_w, i32_w]
    rfl
   refine one_ (i := 8) (N := none) #[true, true, true, true, true, true, true, true, true] rfl rfl (one_of HT_.out (by kernel_rfl)) (by decide) (fun K hK => ?_)
   have hs54 : w53.cell? ⟨gb207, 0, none⟩ = some (.bool false) := (blk_cell BK207.out 0).trans rfl
   have hfs54 := blk_frozen BK207.out 0
   have hns54_0 := NB205_207.out
   have hns54_1 := NB206_207.out
   have hms54_0 := NB207_205.out
   have hms54_1 := NB207_206.out
   have hs56 : w53.cell? ⟨gb207, 1, none⟩ = some (.slice none 0 0) := (blk_cell BK207.out 1).trans rfl
   have hfs56 := blk_frozen BK207.out 1
   have hns56_0 := NB205_207.out
   have hns56_1 := NB206_207.out
   have hms56_0 := NB207_205.out
   have hms56_1 := NB207_206.out
   refine skip_ (w1 := ?_) (by rfl) rfl ?_ ?_
   rotate_left
   ·
    go_simp
    rfl
   refine hK.out _ _ ⟨((cell_far (p := ⟨gb207, _, none⟩) NB206_207.out _).trans (((cell_far (p := ⟨gb207, _, none⟩) NB206_207.out _).trans (hHeld.1)))), ((cell_far (p := ⟨gb207, _, none⟩) NB206_207.out _).trans (((cell_far (p := ⟨gb207, _, none⟩) NB206_207.out _).trans (hHeld.2.1)))), ((cell_far (p := ⟨gb207, _, none⟩) NB205_207.out _).trans (((cell_far (p := ⟨gb207, _, none⟩) NB205_207.out _).trans (hHeld.2.2.1)))), ((cell_far (p := ⟨gb207, _, none⟩) NB205_207.out _).trans (((cell_far (p := ⟨gb207, _, none⟩) NB205_207.out _).trans (hHeld.2.2.2))))⟩ (fun hHeld => ?_)
   clear hK K
   refine done_ (done_of HT_.out (by kernel_rfl)) ?_
   try go_wp2
   refine bodyPost_ret (results_cell_row rfl _ _ gb207 25 #[.bool t226, .slice Ao55 t227.length co55] (0, 0) _ rfl (by refine blk_ups ?_; refine blk_put (cs := #[.bool t226, .slice none 0 0]) ?_ 1 _ rfl; refine blk_ups ?_; refine blk_put (cs := #[.bool false, .slice none 0 0]) ?_ 0 _ rfl; exact blk_up BK207.out) Tryd.underlying25 rfl (by kernel_rfl)) rfl ?_
   exact ⟨_, by first | rfl | (simp [errW_none, errW_some] <;> rfl) | (simp [*, errW_none, errW_some] <;> rfl), Kd.V_up (Kd.V_mono (Kd.V_far (p := ⟨gb207, 1, none⟩) (Kd.V_far (p := ⟨gb207, 0, none⟩) (Kd.V_mono HO229.out (fun k_ hk => (⟨hk, hk.2.2.2⟩ : _ ∧ k_ ≠ gb207))) (fun _ hk => hk.2) (.bool t226)) (fun _ hk => hk.2) (.slice Ao55 t227.length co55)) (fun _ hk => hk.1.1)), by with_reducible repeat first | exact HB.out | apply below_alloc | apply pw_below_drewN | apply below_drew1 | refine below_set ?_ GE205.out | refine below_set ?_ GE206.out | refine below_set ?_ GE207.out⟩
def integer_Neg.f (a0_0 : Bool) (l0_1 : List Int) : Option (Bool × List Int) := if a0_0 = true then (some (false, l0_1)) else (some (decide (0 < l0_1.length), l0_1))
set_option maxHeartbeats 8000000 in
set_option maxRecDepth 100000 in
theorem integer_Neg.calls (a0_0 : Bool) (P0_1_ : Nat → Prop) (A0_1 : Option Addr) (c0_1 : Nat) (l0_1 : List Int) (r1 : Bool) (r2 : List Int) (w : World) (hs0_1 : Kd.V (Kd.int .u32) 60 w w.heap.size (fun k_ => P0_1_ k_) (.slice A0_1 l0_1.length c0_1) l0_1) (h : integer_Neg.f a0_0 l0_1 = some (r1, r2)) :
  Calls Tryd.prog 39 #[.agg #[.bool a0_0, .slice A0_1 l0_1.length c0_1]] w fun e w' => ∃ v1_ : Value, e = .returned (.agg #[.bool r1, v1_]) ∧ Kd.V (Kd.int .u32) 60 w' w.heap.size (fun k_ => (P0_1_ k_ ∨ w.heap.size ≤ k_)) v1_ r2 ∧ Below w.heap.size w w' := by
 have hu25 := Tryd.underlying25
 have HO0_1 := Aside0.mk (show Kd.V (Kd.int .u32) 60 w w.heap.size (fun k_ => (P0_1_ k_ ∨ w.heap.size ≤ k_)) (.slice A0_1 l0_1.length c0_1) l0_1 from Kd.V_mono hs0_1 (fun k_ hk => .inl hk))
 have HB := Aside0.mk (Below.refl w.heap.size w)
 have H := h
 unfold integer_Neg.f at H
 clear h
 by_cases c2 : a0_0 = true
 ·
  subst c2
  have H1 : (some (false, l0_1)) = some (r1, r2) := by rw [if_pos rfl] at H; exact H
  clear H
  have H := H1
  clear H1
  simp only [Option.some.injEq, Prod.mk.injEq] at H
  obtain ⟨rfl, rfl⟩ := H
  go_enter Tryd.func39, Tryd.ntmps39
  go_wp2_with (first | ((with_reducible refine gate_dst (N := 1) rfl ?_); (try (refine gate_guard (by rfl) ?_; dsimp only)); refine box_event ?hg (N := 1) ?hd (cs := #[.bool true, .slice A0_1 l0_1.length c0_1]) (t := 25) ?hr ?_; (case hd => rfl); (case hg => rfl); (case hr => first | (go_simp; done) | (go_simp; rfl)); intro gb230 hg w3 hbox hb; replace HO0_1 := Aside0.mk (Kd.V_below (Kd.V_elderB (Kd.V_up HO0_1.out) gb230 (Nat.le_of_eq hg.symm)) hb); have BK230 := Aside0.mk (hbox); have GE230 := Aside0.mk ((size_up hg HB.out : w.heap.size ≤ gb230)); replace HB := Aside0.mk (below_step (below_up HB.out) hb); clear hb hbox hg) | ((with_reducible refine gate_dst (N := 2) rfl ?_); (try (refine gate_guard (by rfl) ?_; dsimp only)); refine box_event ?hg (N := 2) ?hd (cs := #[.bool false, .slice none 0 0]) (t := 25) ?hr ?_; (case hd => rfl); (case hg => rfl); (case hr => first | (go_simp; done) | (go_simp; rfl)); intro gb231 hg w4 hbox hb; replace HO0_1 := Aside0.mk (Kd.V_below (Kd.V_elderB (Kd.V_up HO0_1.out) gb231 (Nat.le_of_eq hg.symm)) hb); have BK231 := Aside0.mk (hbox); have GE231 := Aside0.mk ((by rw [hg]; exact (below_size (by with_reducible repeat first | exact HB.out | apply below_alloc | apply pw_below_drewN | apply below_drew1 | refine below_set ?_ GE230.out)) : w.heap.size ≤ gb231)); replace HB := Aside0.mk (below_step (by with_reducible repeat first | exact HB.out | apply below_alloc | apply pw_below_drewN | apply below_drew1 | refine below_set ?_ GE230.out) hb); have NB230_231 := Aside0.mk ((blk_nw hg BK230.out : gb230 ≠ gb231)); have NB231_230 := Aside0.mk ((nw_blk hg BK230.out : gb231 ≠ gb230)); replace BK230 := Aside0.mk (blk_below (blk_up BK230.out) hb); clear hb hbox hg; have hnb5 := NB230_231.out; have hnc5 := NB231_230.out; have hcz6_0 : w4.cell? ⟨gb230, 0, none⟩ = some (.bool true) := (blk_cell BK230.out 0).trans rfl; have hcz6_1 : w4.cell? ⟨gb230, 1, none⟩ = some (.slice A0_1 l0_1.length c0_1) := (blk_cell BK230.out 1).trans rfl; have hfz6_0 := blk_frozen BK230.out 0; have hfz6_1 := blk_frozen BK230.out 1; have hcz7_0 : w4.cell? ⟨gb231, 0, none⟩ = some (.bool false) := (blk_cell BK231.out 0).trans rfl; have hcz7_1 : w4.cell? ⟨gb231, 1, none⟩ = some (.slice none 0 0) := (blk_cell BK231.out 1).trans rfl; have hfz7_0 := blk_frozen BK231.out 0; have hfz7_1 := blk_frozen BK231.out 1))
  refine bodyPost_ret (results_cell_row rfl _ _ gb231 25 #[.bool false, .slice A0_1 l0_1.length c0_1] (0, 0) _ rfl (by refine blk_ups ?_; refine blk_put (cs := #[.bool false, .slice none 0 0]) ?_ 1 _ rfl; refine blk_ups ?_; refine blk_put (cs := #[.bool false, .slice none 0 0]) ?_ 0 _ rfl; exact blk_up BK231.out) Tryd.underlying25 rfl (by kernel_rfl)) rfl ?_
  exact ⟨_, by first | rfl | (simp [errW_none, errW_some] <;> rfl) | (simp [*, errW_none, errW_some] <;> rfl), Kd.V_up (Kd.V_mono (Kd.V_far (p := ⟨gb231, 1, none⟩) (Kd.V_far (p := ⟨gb231, 0, none⟩) (Kd.V_mono HO0_1.out (fun k_ hk => (⟨hk, hk.2⟩ : _ ∧ k_ ≠ gb231))) (fun _ hk => hk.2) (.bool false)) (fun _ hk => hk.2) (.slice A0_1 l0_1.length c0_1)) (fun _ hk => hk.1.1.1)), by with_reducible repeat first | exact HB.out | apply below_alloc | apply pw_below_drewN | apply below_drew1 | refine below_set ?_ GE230.out | refine below_set ?_ GE231.out⟩
 ·
  replace c2 := Bool.eq_false_iff.mpr c2
  subst c2
  have H1 : (some (decide (0 < l0_1.length), l0_1)) = some (r1, r2) := by rw [if_neg (show ¬ (false = true) by decide)] at H; exact H
  clear H
  have H := H1
  clear H1
  simp only [Option.some.injEq, Prod.mk.injEq] at H
  obtain ⟨rfl, rfl⟩ := H
  go_enter Tryd.func39, Tryd.ntmps39
  go_wp2_with (first | ((with_reducible refine gate_dst (N := 1) rfl ?_); (try (refine gate_guard (by rfl) ?_; dsimp only)); refine box_event ?hg (N := 1) ?hd (cs := #[.bool false, .slice A0_1 l0_1.length c0_1]) (t := 25) ?hr ?_; (case hd => rfl); (case hg => rfl); (case hr => first | (go_simp; done) | (go_simp; rfl)); intro gb230 hg w8 hbox hb; replace HO0_1 := Aside0.mk (Kd.V_below (Kd.V_elderB (Kd.V_up HO0_1.out) gb230 (Nat.le_of_eq hg.symm)) hb); have BK230 := Aside0.mk (hbox); have GE230 := Aside0.mk ((size_up hg HB.out : w.heap.size ≤ gb230)); replace HB := Aside0.mk (below_step (below_up HB.out) hb); clear hb hbox hg) | ((with_reducible refine gate_dst (N := 2) rfl ?_); (try (refine gate_guard (by rfl) ?_; dsimp only)); refine box_event ?hg (N := 2) ?hd (cs := #[.bool false, .slice none 0 0]) (t := 25) ?hr ?_; (case hd => rfl); (case hg => rfl); (case hr => first | (go_simp; done) | (go_simp; rfl)); intro gb231 hg w9 hbox hb; replace HO0_1 := Aside0.mk (Kd.V_below (Kd.V_elderB (Kd.V_up HO0_1.out) gb231 (Nat.le_of_eq hg.symm)) hb); have BK231 := Aside0.mk (hbox); have GE231 := Aside0.mk ((by rw [hg]; exact (below_size (by with_reducible repeat first | exact HB.out | apply below_alloc | apply pw_below_drewN | apply below_drew1 | refine below_set ?_ GE230.out)) : w.heap.size ≤ gb231)); replace HB := Aside0.mk (below_step (by with_reducible repeat first | exact HB.out | apply below_alloc | apply pw_below_drewN | apply below_drew1 | refine below_set ?_ GE230.out) hb); have NB230_231 := Aside0.mk ((blk_nw hg BK230.out : gb230 ≠ gb231)); have NB231_230 := Aside0.mk ((nw_blk hg BK230.out : gb231 ≠ gb230)); replace BK230 := Aside0.mk (blk_below (blk_up BK230.out) hb); clear hb hbox hg; have hnb10 := NB230_231.out; have hnc10 := NB231_230.out; have hcz11_0 : w9.cell? ⟨gb230, 0, none⟩ = some (.bool false) := (blk_cell BK230.out 0).trans rfl; have hcz11_1 : w9.cell? ⟨gb230, 1, none⟩ = some (.slice A0_1 l0_1.length c0_1) := (blk_cell BK230.out 1).trans rfl; have hfz11_0 := blk_frozen BK230.out 0; have hfz11_1 := blk_frozen BK230.out 1; have hcz12_0 : w9.cell? ⟨gb231, 0, none⟩ = some (.bool false) := (blk_cell BK231.out 0).trans rfl; have hcz12_1 : w9.cell? ⟨gb231, 1, none⟩ = some (.slice none 0 0) := (blk_cell BK231.out 1).trans rfl; have hfz12_0 := blk_frozen BK231.out 0; have hfz12_1 := blk_frozen BK231.out 1))
  refine bodyPost_ret (results_cell_row rfl _ _ gb231 25 #[.bool (decide (0 < l0_1.length)), .slice A0_1 l0_1.length c0_1] (0, 0) _ rfl (by refine blk_ups ?_; refine blk_put (cs := #[.bool (decide (0 < l0_1.length)), .slice none 0 0]) ?_ 1 _ rfl; refine blk_ups ?_; refine blk_put (cs := #[.bool false, .slice none 0 0]) ?_ 0 _ rfl; exact blk_up BK231.out) Tryd.underlying25 rfl (by kernel_rfl)) rfl ?_
  exact ⟨_, by first | rfl | (simp [errW_none, errW_some] <;> rfl) | (simp [*, errW_none, errW_some] <;> rfl), Kd.V_up (Kd.V_mono (Kd.V_far (p := ⟨gb231, 1, none⟩) (Kd.V_far (p := ⟨gb231, 0, none⟩) (Kd.V_mono HO0_1.out (fun k_ hk => (⟨hk, hk.2⟩ : _ ∧ k_ ≠ gb231))) (fun _ hk => hk.2) (.bool (decide (0 < l0_1.length)))) (fun _ hk => hk.2) (.slice A0_1 l0_1.length c0_1)) (fun _ hk => hk.1.1.1)), by with_reducible repeat first | exact HB.out | apply below_alloc | apply pw_below_drewN | apply below_drew1 | refine below_set ?_ GE230.out | refine below_set ?_ GE231.out⟩
def integer_Sub.f (k : Nat) (a0_0 : Bool) (l0_1 : List Int) (a1_0 : Bool) (l1_1 : List Int) : Option (Bool × List Int) := (integer_Neg.f a1_0 l1_1).bind fun bt235 => ((integer_Add.f k a0_0 l0_1 bt235.1 bt235.2).bind fun bt239 => (some (bt239.1, bt239.2)))
theorem integer_Sub.mono : ∀ a0 a1 a2 a3 k, LeO (integer_Sub.f k a0 a1 a2 a3) (integer_Sub.f (k + 1) a0 a1 a2 a3) := by
 intro a0 a1 a2 a3 k
 unfold integer_Sub.f
 repeat' with_reducible first | exact integer_Add.mono _ _ _ _ _ | exact LeO.refl _ | exact LeO.none _ | refine LeO.ite ?_ ?_ | refine LeO.bind ?_ (fun _ => ?_)
set_option maxHeartbeats 8000000 in
set_option maxRecDepth 100000 in
theorem integer_Sub.calls (k : Nat) (a0_0 : Bool) (A0_1 : Option Addr) (c0_1 : Nat) (l0_1 : List Int) (a1_0 : Bool) (P1_1_ : Nat → Prop) (A1_1 : Option Addr) (c1_1 : Nat) (l1_1 : List Int) (r1 : Bool) (r2 : List Int) (w : World) (hr0_1 : Kd.C (Kd.int .u32) w A0_1 l0_1.length l0_1) (hc0_1 : l0_1.length ≤ c0_1) (hs1_1 : Kd.V (Kd.int .u32) 60 w w.heap.size (fun k_ => P1_1_ k_) (.slice A1_1 l1_1.length c1_1) l1_1) (h : integer_Sub.f k a0_0 l0_1 a1_0 l1_1 = some (r1, r2)) :
  Calls Tryd.prog 37 #[.agg #[.bool a0_0, .slice A0_1 l0_1.length c0_1], .agg #[.bool a1_0, .slice A1_1 l1_1.length c1_1]] w fun e w' => ∃ v1_ : Value, e = .returned (.agg #[.bool r1, v1_]) ∧ Kd.V (Kd.int .u32) 60 w' w.heap.size (fun k_ => (P1_1_ k_ ∨ w.heap.size ≤ k_)) v1_ r2 ∧ Below w.heap.size w w' := by
 have hu25 := Tryd.underlying25
 have HR0_1 := Aside0.mk hr0_1
 have HC0_1 := Aside0.mk hc0_1
 clear hr0_1 hc0_1
 have HO1_1 := Aside0.mk (show Kd.V (Kd.int .u32) 60 w w.heap.size (fun k_ => (P1_1_ k_ ∨ w.heap.size ≤ k_)) (.slice A1_1 l1_1.length c1_1) l1_1 from Kd.V_mono hs1_1 (fun k_ hk => .inl hk))
 have HB := Aside0.mk (Below.refl w.heap.size w)
 have H := h
 unfold integer_Sub.f at H
 clear h
 replace H := Option.bind_eq_some_iff.mp H
 obtain ⟨⟨t235, t236⟩, A30, H⟩ := H
 try dsimp only at H
 have A3 := Aside0.mk A30
 clear A30
 replace H := Option.bind_eq_some_iff.mp H
 obtain ⟨⟨t239, t240⟩, A40, H⟩ := H
 try dsimp only at H
 have A4 := Aside0.mk A40
 clear A40
 simp only [Option.some.injEq, Prod.mk.injEq] at H
 obtain ⟨rfl, rfl⟩ := H
 go_enter Tryd.func37, Tryd.ntmps37
 try go_wp2_with (first | ((with_reducible refine gate_dst (N := 2) rfl ?_); refine box_event ?hg (N := 2) ?hd (cs := #[.bool a0_0, .slice A0_1 l0_1.length c0_1]) (t := 25) ?hr ?_; (case hd => rfl); (case hg => rfl); (case hr => first | (go_simp; done) | (go_simp; rfl)); intro gb232 hg w5 hbox hb; replace HO1_1 := Aside0.mk (Kd.V_below (Kd.V_elderB (Kd.V_up HO1_1.out) gb232 (Nat.le_of_eq hg.symm)) hb); have BK232 := Aside0.mk (hbox); have GE232 := Aside0.mk ((size_up hg HB.out : w.heap.size ≤ gb232)); replace HB := Aside0.mk (below_step (below_up HB.out) hb); clear hb hbox hg) | ((with_reducible refine gate_dst (N := 3) rfl ?_); refine box_event ?hg (N := 3) ?hd (cs := #[.bool a1_0, .slice A1_1 l1_1.length c1_1]) (t := 25) ?hr ?_; (case hd => rfl); (case hg => rfl); (case hr => first | (go_simp; done) | (go_simp; rfl)); intro gb233 hg w6 hbox hb; replace HO1_1 := Aside0.mk (Kd.V_below (Kd.V_elderB (Kd.V_up HO1_1.out) gb233 (Nat.le_of_eq hg.symm)) hb); replace BK232 := Aside0.mk (blk_below (blk_up BK232.out) hb); have BK233 := Aside0.mk (hbox); have GE233 := Aside0.mk ((by rw [hg]; exact (below_size (by with_reducible repeat first | exact HB.out | apply below_alloc | apply pw_below_drewN | apply below_drew1 | refine below_set ?_ GE232.out)) : w.heap.size ≤ gb233)); replace HB := Aside0.mk (below_step (by with_reducible repeat first | exact HB.out | apply below_alloc | apply pw_below_drewN | apply below_drew1 | refine below_set ?_ GE232.out) hb); clear hb hbox hg) | ((with_reducible refine gate_dst (N := 4) rfl ?_); refine box_event ?hg (N := 4) ?hd (cs := #[.bool false, .slice none 0 0]) (t := 25) ?hr ?_; (case hd => rfl); (case hg => rfl); (case hr => first | (go_simp; done) | (go_simp; rfl)); intro gb234 hg w7 hbox hb; replace HO1_1 := Aside0.mk (Kd.V_below (Kd.V_elderB (Kd.V_up HO1_1.out) gb234 (Nat.le_of_eq hg.symm)) hb); have BK234 := Aside0.mk (hbox); have GE234 := Aside0.mk ((by rw [hg]; exact (below_size (by with_reducible repeat first | exact HB.out | apply below_alloc | apply pw_below_drewN | apply below_drew1 | refine below_set ?_ GE232.out | refine below_set ?_ GE233.out)) : w.heap.size ≤ gb234)); replace HB := Aside0.mk (below_step (by with_reducible repeat first | exact HB.out | apply below_alloc | apply pw_below_drewN | apply below_drew1 | refine below_set ?_ GE232.out | refine below_set ?_ GE233.out) hb); have NB232_234 := Aside0.mk ((blk_nw hg BK232.out : gb232 ≠ gb234)); have NB234_232 := Aside0.mk ((nw_blk hg BK232.out : gb234 ≠ gb232)); replace BK232 := Aside0.mk (blk_below (blk_up BK232.out) hb); have NB233_234 := Aside0.mk ((blk_nw hg BK233.out : gb233 ≠ gb234)); have NB234_233 := Aside0.mk ((nw_blk hg BK233.out : gb234 ≠ gb233)); replace BK233 := Aside0.mk (blk_below (blk_up BK233.out) hb); clear hb hbox hg))
 replace HO1_1 := Aside0.mk (Kd.V_drew HO1_1.out)
 replace BK232 := Aside0.mk (blk_drew BK232.out)
 replace BK233 := Aside0.mk (blk_drew BK233.out)
 replace BK234 := Aside0.mk (blk_drew BK234.out)
 replace HB := Aside0.mk (below_drew1 HB.out)
 refine start_ (n := 5) (S := fun w' => w'.cell? ⟨gb232, 0, none⟩ = some (.bool a0_0) ∧ w'.cell? ⟨gb232, 1, none⟩ = some (.slice A0_1 l0_1.length c0_1) ∧ w'.cell? ⟨gb233, 0, none⟩ = some (.bool a1_0) ∧ w'.cell? ⟨gb233, 1, none⟩ = some (.slice A1_1 l1_1.length c1_1)) (ds := []) #[false, false, false, false, false] (by kernel_rfl) rfl rfl ⟨(blk_cell BK232.out 0).trans rfl, (blk_cell BK232.out 1).trans rfl, (blk_cell BK233.out 0).trans rfl, (blk_cell BK233.out 1).trans rfl⟩ (fun hHeld => ?_)
 generalize w7.drew = w8 at HO1_1 BK232 BK233 BK234 HB hHeld ⊢
 refine take_ (i := 0) (N := some 5) (v := ?_) (a' := ?_) #[true, false, false, false, false] rfl rfl (by kernel_rfl) (fun _ _ _ h => h) (Or.inl ⟨by rfl, ?_⟩) hHeld ?_ ?_
 rotate_left
 ·
  rintro w' ⟨s0, s1, s2, s3⟩
  go_simp
  with_reducible rfl
 rotate_left
 ·
  simp only [Act.put, List.setIfInBounds_toArray, List.set_cons_zero, List.set_cons_succ, i64_w, i32_w]
  rfl
 refine take_ (i := 1) (N := some 6) (v := ?_) (a' := ?_) #[true, true, false, false, false] rfl rfl (by kernel_rfl) (fun _ _ _ h => h) (Or.inl ⟨by rfl, ?_⟩) hHeld ?_ ?_
 rotate_left
 ·
  rintro w' ⟨s0, s1, s2, s3⟩
  go_simp
  with_reducible rfl
 rotate_left
 ·
  simp only [Act.put, List.setIfInBounds_toArray, List.set_cons_zero, List.set_cons_succ, i64_w, i32_w]
  rfl
 refine one_ (i := 2) (N := some 7) #[true, true, true, false, false] rfl rfl (by kernel_rfl) (by decide) (fun K hK => ?_)
 refine goes_ Tryd.func39 (by kernel_rfl) rfl #[.agg #[.bool a1_0, .slice A1_1 l1_1.length c1_1]] (by rfl) rfl rfl (by (try simp only [List.map_toArray, List.map_cons, List.map_nil]); first | done | rfl | (simp only [List.length_drop, List.length_take]; rfl)) ?_
 with_reducible refine (integer_Neg.calls a1_0 (fun k_ => ((((P1_1_ k_ ∨ w.heap.size ≤ k_) ∧ k_ ≠ gb232) ∧ k_ ≠ gb233) ∧ k_ ≠ gb234)) _ _ l1_1 t235 t236 _ ?side1 A3.out).mono ?_
 (case side1 => exact HO1_1.out)
 rintro e w9 ⟨v237, rfl, ho0, hb⟩
 refine ⟨_, rfl, ?_⟩
 have n1_ := Aside0.mk (Kd.V_lower (Kd.V_mono (ok' := fun k_ => (P1_1_ k_ ∨ w.heap.size ≤ k_) ∧ k_ ≠ gb232 ∧ k_ ≠ gb233 ∧ k_ ≠ gb234) ho0 (fun k_ hk_ => ⟨Or.elim hk_ (fun hs_ => hs_.1.1.1) (fun hn_ => (.inr (Nat.le_trans (below_size (by with_reducible repeat first | exact HB.out | apply below_alloc | apply pw_below_drewN | apply below_drew1 | refine below_set ?_ GE232.out | refine below_set ?_ GE233.out | refine below_set ?_ GE234.out)) hn_))), Or.elim hk_ (fun hs_ => hs_.1.1.2) (fun hn_ => (Kd.freshB (g := gb232) (o := .cells #[.bool a0_0, .slice A0_1 l0_1.length c0_1] 25 (0, 0)) (blk_up BK232.out) k_ hn_)), Or.elim hk_ (fun hs_ => hs_.1.2) (fun hn_ => (Kd.freshB (g := gb233) (o := .cells #[.bool a1_0, .slice A1_1 l1_1.length c1_1] 25 (0, 0)) (blk_up BK233.out) k_ hn_)), Or.elim hk_ (fun hs_ => hs_.2) (fun hn_ => (Kd.freshB (g := gb234) (o := .cells #[.bool false, .slice none 0 0] 25 (0, 0)) (blk_up BK234.out) k_ hn_))⟩)) (below_size (by with_reducible repeat first | exact HB.out | apply below_alloc | apply pw_below_drewN | apply below_drew1 | refine below_set ?_ GE232.out | refine below_set ?_ GE233.out | refine below_set ?_ GE234.out)))
 have n2_ := Aside0.mk (blk_below (blk_up BK232.out) hb)
 have n3_ := Aside0.mk (blk_below (blk_up BK233.out) hb)
 have n4_ := Aside0.mk (blk_below (blk_up BK234.out) hb)
 have n5_ := Aside0.mk (below_step (by with_reducible repeat first | exact HB.out | apply below_alloc | apply pw_below_drewN | apply below_drew1 | refine below_set ?_ GE232.out | refine below_set ?_ GE233.out | refine below_set ?_ GE234.out) hb)
 (try clear HO1_1)
 clear BK232
 clear BK233
 clear BK234
 clear HB
 have HO238 := n1_
 have BK232 := n2_
 have BK233 := n3_
 have BK234 := n4_
 have HB := n5_
 clear n1_ n2_ n3_ n4_ n5_
 (try clear hb)
 (try clear hb2)
 (try clear hk)
 (try clear hi)
 (try clear ho0)
 obtain ⟨Ao10, co10, eo10⟩ := Kd.V_slice HO238.out
 (first | subst eo10 | (injection eo10 with f1_ f2_ f3_; have f4_ := f1_.symm; have f5_ := f3_.symm; clear f1_ f2_ f3_; subst f4_; subst f5_))
 refine hK.out _ _ ⟨(blk_cell BK232.out 0).trans rfl, (blk_cell BK232.out 1).trans rfl, (blk_cell BK233.out 0).trans rfl, (blk_cell BK233.out 1).trans rfl⟩ (fun hHeld => ?_)
 clear hK K
 refine norm_ (a' := ?_) ?_ ?_
 rotate_left
 ·
  show Act.put _ (some 7) _ = _
  simp only [Act.put, List.setIfInBounds_toArray, List.set_cons_zero, List.set_cons_succ, i64_w, i32_w]
  rfl
 refine one_ (i := 3) (N := some 8) #[true, true, true, true, false] rfl rfl (by kernel_rfl) (by decide) (fun K hK => ?_)
 refine goes_ Tryd.func35 (by kernel_rfl) rfl #[.agg #[.bool a0_0, .slice A0_1 l0_1.length c0_1], .agg #[.bool t235, .slice Ao10 t236.length co10]] (by rfl) rfl rfl (by (try simp only [List.map_toArray, List.map_cons, List.map_nil]); first | done | rfl | (simp only [List.length_drop, List.length_take]; rfl)) ?_
 with_reducible refine (integer_Add.calls k a0_0 _ _ l0_1 t235 _ _ t236 t239 t240 _ ?side1 ?side2 ?side3 ?side4 A4.out).mono ?_
 (case side1 => repeat (first | exact (Kd.C_below HR0_1.out HB.out) | (with_reducible refine Kd.C_alloc ?_ _) | (with_reducible refine Kd.C_drewN ?_ _) | (with_reducible refine Kd.C_drew ?_)))
 (case side2 => exact HC0_1.out)
 (case side3 => repeat (first | exact (Kd.V_reads' HO238.out).2.2 | (with_reducible refine Kd.C_alloc ?_ _) | (with_reducible refine Kd.C_drewN ?_ _) | (with_reducible refine Kd.C_drew ?_)))
 (case side4 => exact (Kd.V_reads' HO238.out).2.1)
 rintro e w11 ⟨v241, rfl, ho0, hb⟩
 refine ⟨_, rfl, ?_⟩
 have n2_ := Aside0.mk (Kd.V_lower (Kd.V_mono (ok' := fun k_ => (P1_1_ k_ ∨ w.heap.size ≤ k_) ∧ k_ ≠ gb232 ∧ k_ ≠ gb233 ∧ k_ ≠ gb234) ho0 (fun k_ hk_ => ⟨(.inr (Nat.le_trans (below_size (by with_reducible repeat first | exact HB.out | apply below_alloc | apply pw_below_drewN | apply below_drew1 | refine below_set ?_ GE232.out | refine below_set ?_ GE233.out | refine below_set ?_ GE234.out)) hk_)), (Kd.freshB (g := gb232) (o := .cells #[.bool a0_0, .slice A0_1 l0_1.length c0_1] 25 (0, 0)) (blk_up BK232.out) k_ hk_), (Kd.freshB (g := gb233) (o := .cells #[.bool a1_0, .slice A1_1 l1_1.length c1_1] 25 (0, 0)) (blk_up BK233.out) k_ hk_), (Kd.freshB (g := gb234) (o := .cells #[.bool false, .slice none 0 0] 25 (0, 0)) (blk_up BK234.out) k_ hk_)⟩)) (below_size (by with_reducible repeat first | exact HB.out | apply below_alloc | apply pw_below_drewN | apply below_drew1 | refine below_set ?_ GE232.out | refine below_set ?_ GE233.out | refine below_set ?_ GE234.out)))
 have n3_ := Aside0.mk (blk_below (blk_up BK232.out) hb)
 have n4_ := Aside0.mk (blk_below (blk_up BK233.out) hb)
 have n5_ := Aside0.mk (blk_below (blk_up BK234.out) hb)
 have n6_ := Aside0.mk (below_step (by with_reducible repeat first | exact HB.out | apply below_alloc | apply pw_below_drewN | apply below_drew1 | refine below_set ?_ GE232.out | refine below_set ?_ GE233.out | refine below_set ?_ GE234.out) hb)
 (try clear HO238)
 clear BK232
 clear BK233
 clear BK234
 clear HB
 have HO242 := n2_
 have BK232 := n3_
 have BK233 := n4_
 have BK234 := n5_
 have HB := n6_
 clear n2_ n3_ n4_ n5_ n6_
 (try clear hb)
 (try clear hb2)
 (try clear hk)
 (try clear hi)
 (try clear ho0)
 obtain ⟨Ao13, co13, eo13⟩ := Kd.V_slice HO242.out
 (first | subst eo13 | (injection eo13 with f1_ f2_ f3_; have f4_ := f1_.symm; have f5_ := f3_.symm; clear f1_ f2_ f3_; subst f4_; subst f5_))
 refine hK.out _ _ ⟨(blk_cell BK232.out 0).trans rfl, (blk_cell BK232.out 1).trans rfl, (blk_cell BK233.out 0).trans rfl, (blk_cell BK233.out 1).trans rfl⟩ (fun hHeld => ?_)
 clear hK K
 refine norm_ (a' := ?_) ?_ ?_
 rotate_left
 ·
  show Act.put _ (some 8) _ = _
  simp only [Act.put, List.setIfInBounds_toArray, List.set_cons_zero, List.set_cons_succ, i64_w, i32_w]
  rfl
 refine one_ (i := 4) (N := none) #[true, true, true, true, true] rfl rfl (by kernel_rfl) (by decide) (fun K hK => ?_)
 have hs12 : w11.cell? ⟨gb234, 0, none⟩ = some (.bool false) := (blk_cell BK234.out 0).trans rfl
 have hfs12 := blk_frozen BK234.out 0
 have hns12_0 := NB232_234.out
 have hns12_1 := NB233_234.out
 have hms12_0 := NB234_232.out
 have hms12_1 := NB234_233.out
 have hs14 : w11.cell? ⟨gb234, 1, none⟩ = some (.slice none 0 0) := (blk_cell BK234.out 1).trans rfl
 have hfs14 := blk_frozen BK234.out 1
 have hns14_0 := NB232_234.out
 have hns14_1 := NB233_234.out
 have hms14_0 := NB234_232.out
 have hms14_1 := NB234_233.out
 refine skip_ (w1 := ?_) (by rfl) rfl ?_ ?_
 rotate_left
 ·
  go_simp
  rfl
 refine hK.out _ _ ⟨((cell_far (p := ⟨gb234, _, none⟩) NB232_234.out _).trans (((cell_far (p := ⟨gb234, _, none⟩) NB232_234.out _).trans (hHeld.1)))), ((cell_far (p := ⟨gb234, _, none⟩) NB232_234.out _).trans (((cell_far (p := ⟨gb234, _, none⟩) NB232_234.out _).trans (hHeld.2.1)))), ((cell_far (p := ⟨gb234, _, none⟩) NB233_234.out _).trans (((cell_far (p := ⟨gb234, _, none⟩) NB233_234.out _).trans (hHeld.2.2.1)))), ((cell_far (p := ⟨gb234, _, none⟩) NB233_234.out _).trans (((cell_far (p := ⟨gb234, _, none⟩) NB233_234.out _).trans (hHeld.2.2.2))))⟩ (fun hHeld => ?_)
 clear hK K
 refine done_ (by kernel_rfl) ?_
 try go_wp2
 refine bodyPost_ret (results_cell_row rfl _ _ gb234 25 #[.bool t239, .slice Ao13 t240.length co13] (0, 0) _ rfl (by refine blk_ups ?_; refine blk_put (cs := #[.bool t239, .slice none 0 0]) ?_ 1 _ rfl; refine blk_ups ?_; refine blk_put (cs := #[.bool false, .slice none 0 0]) ?_ 0 _ rfl; exact blk_up BK234.out) Tryd.underlying25 rfl (by kernel_rfl)) rfl ?_
 exact ⟨_, by first | rfl | (simp [errW_none, errW_some] <;> rfl) | (simp [*, errW_none, errW_some] <;> rfl), Kd.V_up (Kd.V_mono (Kd.V_far (p := ⟨gb234, 1, none⟩) (Kd.V_far (p := ⟨gb234, 0, none⟩) (Kd.V_mono HO242.out (fun k_ hk => (⟨hk, hk.2.2.2⟩ : _ ∧ k_ ≠ gb234))) (fun _ hk => hk.2) (.bool t239)) (fun _ hk => hk.2) (.slice Ao13 t240.length co13)) (fun _ hk => hk.1.1)), by with_reducible repeat first | exact HB.out | apply below_alloc | apply pw_below_drewN | apply below_drew1 | refine below_set ?_ GE232.out | refine below_set ?_ GE233.out | refine below_set ?_ GE234.out⟩
def bits_LeadingZeros32.f (a0 : Int) : Option Int := if 0 ≤ a0 ∧ a0 ≤ 4294967295 then some (32 - (Lib.bitLen a0.toNat : Int)) else none
theorem bits_LeadingZeros32.calls (a0 : Int) (r : Int) (w : World) (h : bits_LeadingZeros32.f a0 = some r) :
  Calls Tryd.prog 79 #[.int .u32 a0] w fun e w' => e = .returned (.int .i64 r) ∧ Drawn0 w w' := by
 unfold bits_LeadingZeros32.f at h
 split at h
 ·
  rename_i hb
  simp only [Option.some.injEq] at h
  subst h
  refine (Tryd.bits_LeadingZeros32 a0 w hb.1 hb.2).mono ?_
  rintro e w' ⟨rfl, rfl⟩
  exact ⟨rfl, Drawn0.refl _⟩
 ·
  cases h
end Go.Proofs.YtiikfhdmclmjmaaDoor.P
