/- Part 2 of the proof of IntegerPowers: what the program's functions compute, told as plain functions, and what these answer. Conditions: none beside the statement's own. Gathered by the session's program merge.py out of its own and the printed texts; no declaration that the proof does not name is left in. -/
import Derived.Test.YtiikfhdmclmjmaaDoorIPow1
import Derived.Shelf.Strings.Builder1
import Derived.Shelf.Strings.Builder2
import Derived.Shelf.Strings.OnBuilder
import Derived.Shelf.Small.Bits
import Derived.Shelf.Strings.BuilderF
import Derived.Shelf.Strconv.Itoa0
import Derived.Shelf.Strconv.Itoa1
import Derived.Shelf.LaysM
import Derived.Shelf.Strconv.Itoa2
import Derived.Shelf.Strconv.Itoa3
import Derived.Shelf.Strconv.Lower
import Derived.Shelf.Strconv.ParseUint10b32
import Derived.Ground.MpProg
import Derived.Shelf.Pu.ParseUintPublic10
import Derived.Shelf.Pu.ErrVarParseUint
import Derived.Shelf.GgClosure.StringsIndexFunc
import Derived.Ground.GgwProg
import Derived.Shelf.GgClosure.StringsIndexFuncTop
import Derived.Shelf.GgClosure.StringsRunes
import Derived.Shelf.Strings.Prefix
import Derived.Shelf.Bits.Mul64
import Derived.Shelf.Strings.Repeat
import Derived.Test.YtiikfhdmclmjmaaDoorProg
import Derived.Below
import Derived.Deep.Draws
import Derived.Deep.AppendLies
import Derived.Maps.AppendAt
import Derived.OwnWalk
import Derived.Laws.BytesArg
import Derived.Laws.MakeOwn
import Derived.Laws.OwnMore
import Derived.Deep.OwnRows
import Derived.Tactics
import Derived.Lib.ConvBytes
import Derived.Laws.Slices
import Derived.WalkKit
import Derived.KernelRfl
import Derived.RowKit3
import Derived.Deep.LoopGhost
import Derived.Deep.QuietTactic
import Derived.BigQuiet
import Derived.WideLaws
import Derived.Deep.DeepCutAuto
import Derived.Deep.CutBlock
import Derived.Deep.RegionHeld3
import Derived.Laws.Rows
import Derived.Lib.AppendStr
import Derived.ArgAppend
import Derived.Laws.IdiomCopy
import Derived.OrdersHeld
import Derived.Laws.BitsLemmas
import Derived.RowKit
import Derived.Lib.QuietBelow
import Derived.WalkSmall
import Derived.Lib.SliceRun
import Derived.Shelf.Abstract
import Derived.Lib.AtoiErrMem
import Derived.Laws.StructEq
namespace Go.Proofs
open Go.Shelf
def Tryd.lays156_ren : Go.Shelf.Ren := ⟨fun | 156 => 50 | 165 => 71 | 166 => 72 | 169 => 74 | 240 => 87 | 241 => 88 | 276 => 101 | 277 => 102 | n => n, fun | 31 => 62 | 9 => 9 | 3 => 3 | 4 => 4 | 0 => 0 | 20 => 20 | 72 => 93 | 76 => 95 | 70 => 91 | 37 => 37 | 75 => 75 | 127 => 106 | 164 => 118 | 5 => 5 | 80 => 29 | n => n, fun | n => n⟩
theorem Tryd.lays156 : Go.Proofs.Lays.n156 Tryd.prog Tryd.lays156_ren := {
  mixed := by kernel_rfl
  f156 := Tryd.func50.trans (congrArg some (by kernel_rfl))
  f165 := Tryd.func71.trans (congrArg some (by kernel_rfl))
  f166 := Tryd.func72.trans (congrArg some (by kernel_rfl))
  f169 := Tryd.func74.trans (congrArg some (by kernel_rfl))
  f240 := Tryd.func87.trans (congrArg some (by kernel_rfl))
  f241 := Tryd.func88.trans (congrArg some (by kernel_rfl))
  f276 := Tryd.func101.trans (congrArg some (by kernel_rfl))
  f277 := Tryd.func102.trans (congrArg some (by kernel_rfl))
  t0 := Tryd.underlying0
  a0 := Tryd.isAgg0
  z0 := Tryd.sizeOf0
  v0 := Tryd.zeroValue0
  t3 := Tryd.underlying3
  a3 := Tryd.isAgg3
  z3 := Tryd.sizeOf3
  v3 := Tryd.zeroValue3
  t4 := Tryd.underlying4
  a4 := Tryd.isAgg4
  z4 := Tryd.sizeOf4
  v4 := Tryd.zeroValue4
  t9 := Tryd.underlying9
  a9 := Tryd.isAgg9
  z9 := Tryd.sizeOf9
  v9 := Tryd.zeroValue9
  t20 := Tryd.underlying20
  a20 := Tryd.isAgg20
  z20 := Tryd.sizeOf20
  v20 := Tryd.zeroValue20
  t31 := Tryd.underlying62
  a31 := Tryd.isAgg62
  z31 := Tryd.sizeOf62
  v31 := Tryd.zeroValue62
  t37 := Tryd.underlying37
  a37 := Tryd.isAgg37
  z37 := Tryd.sizeOf37
  v37 := Tryd.zeroValue37
  t70 := Tryd.underlying91
  a70 := Tryd.isAgg91
  z70 := Tryd.sizeOf91
  v70 := Tryd.zeroValue91
  t72 := Tryd.underlying93
  a72 := Tryd.isAgg93
  z72 := Tryd.sizeOf93
  v72 := Tryd.zeroValue93
  t75 := Tryd.underlying75
  a75 := Tryd.isAgg75
  z75 := Tryd.sizeOf75
  v75 := Tryd.zeroValue75
  t76 := Tryd.underlying95
  a76 := Tryd.isAgg95
  z76 := Tryd.sizeOf95
  v76 := Tryd.zeroValue95
  t127 := Tryd.underlying106
  a127 := Tryd.isAgg106
  z127 := Tryd.sizeOf106
  v127 := Tryd.zeroValue106
  t164 := Tryd.underlying118
  a164 := Tryd.isAgg118
  z164 := Tryd.sizeOf118
  v164 := Tryd.zeroValue118 }
theorem Tryd.Builder_Extra_156 : Builder.Extra Tryd.prog Tryd.lays156_ren := {
  sizeBuilder := by kernel_rfl
  liesBuilder := by kernel_rfl
  t5 := Tryd.underlying5
  a5 := Tryd.isAgg5
  z5 := Tryd.sizeOf5
  v5 := Tryd.zeroValue5
  infoByte := by kernel_rfl
  cellsByte := by kernel_rfl
  sizeByte := by kernel_rfl
  neB5 := by decide }
open Go.RowKit in
theorem Tryd.strings_Join_none (a : Option Addr) (c : Nat) (sep : ByteArray) (w : World) :
    Calls Tryd.prog 50 #[.slice a 0 c, .string sep] w fun e w' => e = .returned (.string ⟨#[]⟩) ∧ w' = w := Any.strings_Join_none Tryd.lays156 Tryd.Builder_Extra_156 a c sep w
open Go.RowKit in
theorem Tryd.strings_Join (bk o c : Nat) (xs : List ByteArray) (sep : ByteArray) (w : World) (hcells : ∀ (j : Nat) x, xs[j]? = some x → w.cell? ⟨bk, o + j, none⟩ = some (.string x)) (hbk : bk < w.heap.size) (hN : xs.length ≤ 140737488355328) (hcap : xs.length ≤ c) (hlen : (Lib.join (xs.map (·.data.toList)) sep.data.toList).length ≤ 140737488355328) :
    Calls Tryd.prog 50 #[.slice (some ⟨bk, o, none⟩) xs.length c, .string sep] w fun e w' => e = .returned (.string ⟨(Lib.join (xs.map (·.data.toList)) sep.data.toList).toArray⟩) ∧ Below w.heap.size w w' := Any.strings_Join Tryd.lays156 Tryd.Builder_Extra_156 bk o c xs sep w hcells hbk hN hcap hlen
def Tryd.lays128_ren : Go.Shelf.Ren := ⟨fun | 128 => 66 | n => n, fun | 51 => 60 | 3 => 3 | 4 => 4 | 46 => 61 | 5 => 5 | 9 => 9 | n => n, fun | n => n⟩
theorem Tryd.lays128 : Go.Proofs.Lays.n128 Tryd.prog Tryd.lays128_ren := {
  mixed := by kernel_rfl
  f128 := Tryd.func66.trans (congrArg some (by kernel_rfl))
  t3 := Tryd.underlying3
  a3 := Tryd.isAgg3
  z3 := Tryd.sizeOf3
  v3 := Tryd.zeroValue3
  t4 := Tryd.underlying4
  a4 := Tryd.isAgg4
  z4 := Tryd.sizeOf4
  v4 := Tryd.zeroValue4
  t5 := Tryd.underlying5
  a5 := Tryd.isAgg5
  z5 := Tryd.sizeOf5
  v5 := Tryd.zeroValue5
  t9 := Tryd.underlying9
  a9 := Tryd.isAgg9
  z9 := Tryd.sizeOf9
  v9 := Tryd.zeroValue9
  t46 := Tryd.underlying61
  a46 := Tryd.isAgg61
  z46 := Tryd.sizeOf61
  v46 := Tryd.zeroValue61
  t51 := Tryd.underlying60
  a51 := Tryd.isAgg60
  z51 := Tryd.sizeOf60
  v51 := Tryd.zeroValue60 }
theorem Tryd.bits_Len32 (x : Int) (w : World) (h0 : 0 ≤ x) (h1 : x ≤ 4294967295) :
    Calls Tryd.prog 66 #[.int .u32 x] w fun e w' => e = .returned (.int .i64 (Lib.bitLen x.toNat)) ∧ w' = w := Any.bits_Len32 Tryd.lays128 x w h0 h1
def Tryd.laysM171_ren : Go.Shelf.Ren := ⟨fun | 171 => 47 | 243 => 68 | 246 => 83 | 283 => 97 | 284 => 98 | 285 => 99 | 286 => 100 | 129 => 106 | 317 => 105 | 318 => 107 | 319 => 108 | 320 => 109 | 337 => 110 | 338 => 111 | n => n, fun | 3 => 3 | 9 => 9 | 2 => 2 | 4 => 4 | 171 => 113 | 0 => 0 | 53 => 58 | 37 => 37 | 5 => 5 | 173 => 116 | 212 => 126 | 51 => 60 | 20 => 20 | 213 => 127 | 46 => 61 | 232 => 132 | 233 => 133 | n => n, fun | 17 => 2 | 18 => 4 | 19 => 5 | n => n⟩
theorem Tryd.laysM171 : Go.Proofs.LaysM.n171 Tryd.prog Tryd.laysM171_ren := {
  mixed := by kernel_rfl
  f129 := Tryd.func106.trans (congrArg some (by kernel_rfl))
  f171 := Tryd.func47.trans (congrArg some (by kernel_rfl))
  f243 := Tryd.func68.trans (congrArg some (by kernel_rfl))
  f246 := Tryd.func83.trans (congrArg some (by kernel_rfl))
  f283 := Tryd.func97.trans (congrArg some (by kernel_rfl))
  f284 := Tryd.func98.trans (congrArg some (by kernel_rfl))
  f285 := Tryd.func99.trans (congrArg some (by kernel_rfl))
  f286 := Tryd.func100.trans (congrArg some (by kernel_rfl))
  f317 := Tryd.func105.trans (congrArg some (by kernel_rfl))
  f318 := Tryd.func107.trans (congrArg some (by kernel_rfl))
  f319 := Tryd.func108.trans (congrArg some (by kernel_rfl))
  f320 := Tryd.func109.trans (congrArg some (by kernel_rfl))
  f337 := Tryd.func110.trans (congrArg some (by kernel_rfl))
  f338 := Tryd.func111.trans (congrArg some (by kernel_rfl))
  t0 := Tryd.underlying0
  a0 := Tryd.isAgg0
  z0 := Tryd.sizeOf0
  v0 := Tryd.zeroValue0
  t2 := Tryd.underlying2
  a2 := Tryd.isAgg2
  z2 := Tryd.sizeOf2
  v2 := Tryd.zeroValue2
  t3 := Tryd.underlying3
  a3 := Tryd.isAgg3
  z3 := Tryd.sizeOf3
  v3 := Tryd.zeroValue3
  t4 := Tryd.underlying4
  a4 := Tryd.isAgg4
  z4 := Tryd.sizeOf4
  v4 := Tryd.zeroValue4
  t5 := Tryd.underlying5
  a5 := Tryd.isAgg5
  z5 := Tryd.sizeOf5
  v5 := Tryd.zeroValue5
  t9 := Tryd.underlying9
  a9 := Tryd.isAgg9
  z9 := Tryd.sizeOf9
  v9 := Tryd.zeroValue9
  t20 := Tryd.underlying20
  a20 := Tryd.isAgg20
  z20 := Tryd.sizeOf20
  v20 := Tryd.zeroValue20
  t37 := Tryd.underlying37
  a37 := Tryd.isAgg37
  z37 := Tryd.sizeOf37
  v37 := Tryd.zeroValue37
  t46 := Tryd.underlying61
  a46 := Tryd.isAgg61
  z46 := Tryd.sizeOf61
  v46 := Tryd.zeroValue61
  t51 := Tryd.underlying60
  a51 := Tryd.isAgg60
  z51 := Tryd.sizeOf60
  v51 := Tryd.zeroValue60
  t53 := Tryd.underlying58
  a53 := Tryd.isAgg58
  z53 := Tryd.sizeOf58
  v53 := Tryd.zeroValue58
  t171 := Tryd.underlying113
  a171 := Tryd.isAgg113
  z171 := Tryd.sizeOf113
  v171 := Tryd.zeroValue113
  t173 := Tryd.underlying116
  a173 := Tryd.isAgg116
  z173 := Tryd.sizeOf116
  v173 := Tryd.zeroValue116
  t212 := Tryd.underlying126
  a212 := Tryd.isAgg126
  z212 := Tryd.sizeOf126
  v212 := Tryd.zeroValue126
  t213 := Tryd.underlying127
  a213 := Tryd.isAgg127
  z213 := Tryd.sizeOf127
  t232 := Tryd.underlying132
  a232 := Tryd.isAgg132
  z232 := Tryd.sizeOf132
  v232 := Tryd.zeroValue132
  t233 := Tryd.underlying133
  a233 := Tryd.isAgg133
  z233 := Tryd.sizeOf133
  v233 := Tryd.zeroValue133
  g17 := by kernel_rfl
  g18 := by kernel_rfl
  g19 := by kernel_rfl
  i0 := by kernel_rfl
  i2 := by kernel_rfl
  i3 := by kernel_rfl
  i4 := by kernel_rfl
  i5 := by kernel_rfl
  i9 := by kernel_rfl
  i20 := by kernel_rfl
  i37 := by kernel_rfl
  i46 := by kernel_rfl
  i51 := by kernel_rfl
  i53 := by kernel_rfl
  i171 := by kernel_rfl
  i173 := by kernel_rfl
  i212 := by kernel_rfl
  i232 := by kernel_rfl
  i233 := by kernel_rfl
  m17 := by kernel_rfl
  m18 := by kernel_rfl
  m19 := by kernel_rfl }
open Go.RowKit Go.Sort Go.Lib in
theorem Tryd.strconv_Itoa (n : Int) (h0 : -9223372036854775808 ≤ n) (h1 : n ≤ 9223372036854775807) (w : World) (htab : Lib.TabIs Tryd.prog w "internal/strconv.uint64pow10" .u64 Lib.pow10Tab) :
    Calls Tryd.prog 47 #[.int .i64 n] w fun e w' => e = .returned (.string ⟨(Lib.itoa n).toArray⟩) ∧ ∃ k os, w' = grow (w.drewN k) os := Any.strconv_Itoa Tryd.laysM171 n h0 h1 w htab
def Tryd.laysPu14_ren : Go.Shelf.Ren := ⟨fun | 14 => 56 | 16 => 77 | 17 => 78 | 19 => 90 | 20 => 91 | 21 => 92 | 22 => 93 | 23 => 94 | 24 => 95 | 25 => 103 | 27 => 47 | 26 => 104 | 28 => 68 | 29 => 83 | 30 => 97 | 31 => 98 | 32 => 99 | 33 => 100 | 35 => 106 | 34 => 105 | 36 => 107 | 37 => 108 | 38 => 109 | 39 => 110 | 40 => 111 | n => n, fun | 9 => 9 | 3 => 3 | 22 => 58 | 24 => 75 | 25 => 76 | 4 => 4 | 34 => 108 | 5 => 5 | 36 => 61 | 37 => 37 | 0 => 0 | 39 => 110 | 21 => 21 | 44 => 122 | 47 => 106 | 50 => 131 | 48 => 129 | 2 => 2 | 52 => 113 | 55 => 116 | 59 => 126 | 60 => 60 | 20 => 20 | 61 => 127 | 65 => 132 | 66 => 133 | 67 => 29 | n => n, fun | 0 => 0 | 1 => 1 | 2 => 2 | 3 => 4 | 4 => 5 | n => n⟩
theorem Tryd.laysPu14 : Go.Proofs.LaysPu.n14 Tryd.prog Tryd.laysPu14_ren := {
  mixed := by kernel_rfl
  f14 := Tryd.func56.trans (congrArg some (by kernel_rfl))
  f16 := Tryd.func77.trans (congrArg some (by kernel_rfl))
  f17 := Tryd.func78.trans (congrArg some (by kernel_rfl))
  f19 := Tryd.func90.trans (congrArg some (by kernel_rfl))
  f20 := Tryd.func91.trans (congrArg some (by kernel_rfl))
  f21 := Tryd.func92.trans (congrArg some (by kernel_rfl))
  f22 := Tryd.func93.trans (congrArg some (by kernel_rfl))
  f23 := Tryd.func94.trans (congrArg some (by kernel_rfl))
  f24 := Tryd.func95.trans (congrArg some (by kernel_rfl))
  f25 := Tryd.func103.trans (congrArg some (by kernel_rfl))
  f26 := Tryd.func104.trans (congrArg some (by kernel_rfl))
  f27 := Tryd.func47.trans (congrArg some (by kernel_rfl))
  f28 := Tryd.func68.trans (congrArg some (by kernel_rfl))
  f29 := Tryd.func83.trans (congrArg some (by kernel_rfl))
  f30 := Tryd.func97.trans (congrArg some (by kernel_rfl))
  f31 := Tryd.func98.trans (congrArg some (by kernel_rfl))
  f32 := Tryd.func99.trans (congrArg some (by kernel_rfl))
  f33 := Tryd.func100.trans (congrArg some (by kernel_rfl))
  f34 := Tryd.func105.trans (congrArg some (by kernel_rfl))
  f35 := Tryd.func106.trans (congrArg some (by kernel_rfl))
  f36 := Tryd.func107.trans (congrArg some (by kernel_rfl))
  f37 := Tryd.func108.trans (congrArg some (by kernel_rfl))
  f38 := Tryd.func109.trans (congrArg some (by kernel_rfl))
  f39 := Tryd.func110.trans (congrArg some (by kernel_rfl))
  f40 := Tryd.func111.trans (congrArg some (by kernel_rfl))
  t0 := Tryd.underlying0
  a0 := Tryd.isAgg0
  z0 := Tryd.sizeOf0
  v0 := Tryd.zeroValue0
  i0 := by kernel_rfl
  t2 := Tryd.underlying2
  a2 := Tryd.isAgg2
  z2 := Tryd.sizeOf2
  v2 := Tryd.zeroValue2
  i2 := by kernel_rfl
  t3 := Tryd.underlying3
  a3 := Tryd.isAgg3
  z3 := Tryd.sizeOf3
  v3 := Tryd.zeroValue3
  i3 := by kernel_rfl
  t4 := Tryd.underlying4
  a4 := Tryd.isAgg4
  z4 := Tryd.sizeOf4
  v4 := Tryd.zeroValue4
  i4 := by kernel_rfl
  t5 := Tryd.underlying5
  a5 := Tryd.isAgg5
  z5 := Tryd.sizeOf5
  v5 := Tryd.zeroValue5
  i5 := by kernel_rfl
  t9 := Tryd.underlying9
  a9 := Tryd.isAgg9
  z9 := Tryd.sizeOf9
  v9 := Tryd.zeroValue9
  i9 := by kernel_rfl
  t20 := Tryd.underlying20
  a20 := Tryd.isAgg20
  z20 := Tryd.sizeOf20
  v20 := Tryd.zeroValue20
  i20 := by kernel_rfl
  t21 := Tryd.underlying21
  a21 := Tryd.isAgg21
  z21 := Tryd.sizeOf21
  v21 := Tryd.zeroValue21
  i21 := by kernel_rfl
  t22 := Tryd.underlying58
  a22 := Tryd.isAgg58
  z22 := Tryd.sizeOf58
  v22 := Tryd.zeroValue58
  i22 := by kernel_rfl
  t24 := Tryd.underlying75
  a24 := Tryd.isAgg75
  z24 := Tryd.sizeOf75
  v24 := Tryd.zeroValue75
  i24 := by kernel_rfl
  t25 := Tryd.underlying76
  a25 := Tryd.isAgg76
  z25 := Tryd.sizeOf76
  v25 := Tryd.zeroValue76
  i25 := by kernel_rfl
  t34 := Tryd.underlying108
  a34 := Tryd.isAgg108
  z34 := Tryd.sizeOf108
  v34 := Tryd.zeroValue108
  i34 := by kernel_rfl
  c34 := by kernel_rfl
  t36 := Tryd.underlying61
  a36 := Tryd.isAgg61
  z36 := Tryd.sizeOf61
  v36 := Tryd.zeroValue61
  i36 := by kernel_rfl
  t37 := Tryd.underlying37
  a37 := Tryd.isAgg37
  z37 := Tryd.sizeOf37
  v37 := Tryd.zeroValue37
  i37 := by kernel_rfl
  t39 := Tryd.underlying110
  a39 := Tryd.isAgg110
  z39 := Tryd.sizeOf110
  v39 := Tryd.zeroValue110
  i39 := by kernel_rfl
  t44 := Tryd.underlying122
  a44 := Tryd.isAgg122
  z44 := Tryd.sizeOf122
  v44 := Tryd.zeroValue122
  i44 := by kernel_rfl
  t47 := Tryd.underlying106
  a47 := Tryd.isAgg106
  z47 := Tryd.sizeOf106
  v47 := Tryd.zeroValue106
  i47 := by kernel_rfl
  t48 := Tryd.underlying129
  a48 := Tryd.isAgg129
  z48 := Tryd.sizeOf129
  v48 := Tryd.zeroValue129
  i48 := by kernel_rfl
  t50 := Tryd.underlying131
  a50 := Tryd.isAgg131
  z50 := Tryd.sizeOf131
  v50 := Tryd.zeroValue131
  i50 := by kernel_rfl
  t52 := Tryd.underlying113
  a52 := Tryd.isAgg113
  z52 := Tryd.sizeOf113
  v52 := Tryd.zeroValue113
  i52 := by kernel_rfl
  t55 := Tryd.underlying116
  a55 := Tryd.isAgg116
  z55 := Tryd.sizeOf116
  v55 := Tryd.zeroValue116
  i55 := by kernel_rfl
  t59 := Tryd.underlying126
  a59 := Tryd.isAgg126
  z59 := Tryd.sizeOf126
  v59 := Tryd.zeroValue126
  i59 := by kernel_rfl
  t60 := Tryd.underlying60
  a60 := Tryd.isAgg60
  z60 := Tryd.sizeOf60
  v60 := Tryd.zeroValue60
  i60 := by kernel_rfl
  t61 := Tryd.underlying127
  a61 := Tryd.isAgg127
  z61 := Tryd.sizeOf127
  t65 := Tryd.underlying132
  a65 := Tryd.isAgg132
  z65 := Tryd.sizeOf132
  v65 := Tryd.zeroValue132
  i65 := by kernel_rfl
  t66 := Tryd.underlying133
  a66 := Tryd.isAgg133
  z66 := Tryd.sizeOf133
  v66 := Tryd.zeroValue133
  i66 := by kernel_rfl
  t67 := Tryd.underlying29
  a67 := Tryd.isAgg29
  z67 := Tryd.sizeOf29
  v67 := Tryd.zeroValue29
  i67 := by kernel_rfl
  g0 := by kernel_rfl
  m0 := by kernel_rfl
  g1 := by kernel_rfl
  m1 := by kernel_rfl
  g2 := by kernel_rfl
  m2 := by kernel_rfl
  g3 := by kernel_rfl
  m3 := by kernel_rfl
  g4 := by kernel_rfl
  m4 := by kernel_rfl }
open Go.RowKit in
theorem Tryd.strconv_ParseUint_10_at32_ok (s : ByteArray) (hmax : s.size ≤ 9223372036854775806) (u : Nat) (h : Lib.parseUintB 32 s.data.toList = .ok u) (w : World) :
    Calls Tryd.prog 56 #[.string s, .int .i64 10, .int .i64 32] w fun e w' => e = .returned (.tuple #[.int .u64 u, .nilIface]) ∧ (w' = w ∨ w' = Lib.bytesWorld w 5 s) := Any.strconv_ParseUint_10_at32_ok Tryd.laysPu14 s hmax u h w
def Tryd.laysGw17_ren : Go.Shelf.Ren := ⟨fun | 17 => 54 | 15 => 76 | 20 => 89 | n => n, fun | 9 => 9 | 23 => 73 | 4 => 4 | 3 => 3 | 0 => 0 | 21 => 21 | n => n, fun | n => n⟩
theorem Tryd.laysGw17 : Go.Proofs.LaysGw.n17 Tryd.prog Tryd.laysGw17_ren := {
  mixed := by kernel_rfl
  f15 := Tryd.func76.trans (congrArg some (by kernel_rfl))
  f17 := Tryd.func54.trans (congrArg some (by kernel_rfl))
  f20 := Tryd.func89.trans (congrArg some (by kernel_rfl))
  t0 := Tryd.underlying0
  a0 := Tryd.isAgg0
  z0 := Tryd.sizeOf0
  v0 := Tryd.zeroValue0
  i0 := by kernel_rfl
  t3 := Tryd.underlying3
  a3 := Tryd.isAgg3
  z3 := Tryd.sizeOf3
  v3 := Tryd.zeroValue3
  i3 := by kernel_rfl
  t4 := Tryd.underlying4
  a4 := Tryd.isAgg4
  z4 := Tryd.sizeOf4
  v4 := Tryd.zeroValue4
  i4 := by kernel_rfl
  t9 := Tryd.underlying9
  a9 := Tryd.isAgg9
  z9 := Tryd.sizeOf9
  v9 := Tryd.zeroValue9
  i9 := by kernel_rfl
  t21 := Tryd.underlying21
  a21 := Tryd.isAgg21
  z21 := Tryd.sizeOf21
  v21 := Tryd.zeroValue21
  i21 := by kernel_rfl
  t23 := Tryd.underlying73
  a23 := Tryd.isAgg73
  z23 := Tryd.sizeOf73
  v23 := Tryd.zeroValue73
  i23 := by kernel_rfl }
open Go.RowKit Go.Lib in
theorem Tryd.strings_ContainsFunc (g : Nat) (lb : Array Value) (eg : ∀ args w, (callFunc g args).run Tryd.prog w = .ok (.enter g args) w) (p : Nat → Bool) (s : ByteArray) (w : World) (hp : PredAt Tryd.prog g lb encR p w) :
    Calls Tryd.prog 54 #[.string s, .func (.func g) #[] lb] w fun e w' => e = .returned (.bool (decide (0 ≤ Lib.idxFunc p true s))) ∧ Below w.heap.size w w' := Any.strings_ContainsFunc Tryd.laysGw17 g lb eg p s w hp
def Tryd.lays206_ren : Go.Shelf.Ren := ⟨fun | 206 => 86 | n => n, fun | 9 => 9 | 4 => 4 | 3 => 3 | n => n, fun | n => n⟩
theorem Tryd.lays206 : Go.Proofs.Lays.n206 Tryd.prog Tryd.lays206_ren := {
  mixed := by kernel_rfl
  f206 := Tryd.func86.trans (congrArg some (by kernel_rfl))
  t3 := Tryd.underlying3
  a3 := Tryd.isAgg3
  z3 := Tryd.sizeOf3
  v3 := Tryd.zeroValue3
  t4 := Tryd.underlying4
  a4 := Tryd.isAgg4
  z4 := Tryd.sizeOf4
  v4 := Tryd.zeroValue4
  t9 := Tryd.underlying9
  a9 := Tryd.isAgg9
  z9 := Tryd.sizeOf9
  v9 := Tryd.zeroValue9 }
open Go.RowKit Go.Lib in
theorem Tryd.stringslite_HasPrefix (s p : ByteArray) (w : World) :
    Calls Tryd.prog 86 #[.string s, .string p] w fun e w' => e = .returned (.bool (Lib.hasPrefix s.data.toList p.data.toList)) ∧ w' = w := Any.stringslite_HasPrefix Tryd.lays206 s p w
def Tryd.lays105_ren : Go.Shelf.Ren := ⟨fun | 105 => 48 | 212 => 69 | 99 => 70 | 165 => 71 | 166 => 72 | 170 => 73 | 169 => 74 | 263 => 84 | 264 => 85 | 206 => 86 | 240 => 87 | 241 => 88 | 276 => 101 | 277 => 102 | n => n, fun | 9 => 9 | 3 => 3 | 4 => 4 | 20 => 20 | 0 => 0 | 46 => 61 | 109 => 89 | 5 => 5 | 72 => 93 | 76 => 95 | 51 => 60 | 146 => 102 | 53 => 58 | 148 => 104 | 70 => 91 | 37 => 37 | 75 => 75 | 127 => 106 | 164 => 118 | 80 => 29 | n => n, fun | n => n⟩
theorem Tryd.lays105 : Go.Proofs.Lays.n105 Tryd.prog Tryd.lays105_ren := {
  mixed := by kernel_rfl
  f99 := Tryd.func70.trans (congrArg some (by kernel_rfl))
  f105 := Tryd.func48.trans (congrArg some (by kernel_rfl))
  f165 := Tryd.func71.trans (congrArg some (by kernel_rfl))
  f166 := Tryd.func72.trans (congrArg some (by kernel_rfl))
  f169 := Tryd.func74.trans (congrArg some (by kernel_rfl))
  f170 := Tryd.func73.trans (congrArg some (by kernel_rfl))
  f206 := Tryd.func86.trans (congrArg some (by kernel_rfl))
  f212 := Tryd.func69.trans (congrArg some (by kernel_rfl))
  f240 := Tryd.func87.trans (congrArg some (by kernel_rfl))
  f241 := Tryd.func88.trans (congrArg some (by kernel_rfl))
  f263 := Tryd.func84.trans (congrArg some (by kernel_rfl))
  f264 := Tryd.func85.trans (congrArg some (by kernel_rfl))
  f276 := Tryd.func101.trans (congrArg some (by kernel_rfl))
  f277 := Tryd.func102.trans (congrArg some (by kernel_rfl))
  t0 := Tryd.underlying0
  a0 := Tryd.isAgg0
  z0 := Tryd.sizeOf0
  v0 := Tryd.zeroValue0
  t3 := Tryd.underlying3
  a3 := Tryd.isAgg3
  z3 := Tryd.sizeOf3
  v3 := Tryd.zeroValue3
  t4 := Tryd.underlying4
  a4 := Tryd.isAgg4
  z4 := Tryd.sizeOf4
  v4 := Tryd.zeroValue4
  t5 := Tryd.underlying5
  a5 := Tryd.isAgg5
  z5 := Tryd.sizeOf5
  v5 := Tryd.zeroValue5
  t9 := Tryd.underlying9
  a9 := Tryd.isAgg9
  z9 := Tryd.sizeOf9
  v9 := Tryd.zeroValue9
  t20 := Tryd.underlying20
  a20 := Tryd.isAgg20
  z20 := Tryd.sizeOf20
  v20 := Tryd.zeroValue20
  t37 := Tryd.underlying37
  a37 := Tryd.isAgg37
  z37 := Tryd.sizeOf37
  v37 := Tryd.zeroValue37
  t46 := Tryd.underlying61
  a46 := Tryd.isAgg61
  z46 := Tryd.sizeOf61
  v46 := Tryd.zeroValue61
  t51 := Tryd.underlying60
  a51 := Tryd.isAgg60
  z51 := Tryd.sizeOf60
  v51 := Tryd.zeroValue60
  t53 := Tryd.underlying58
  a53 := Tryd.isAgg58
  z53 := Tryd.sizeOf58
  v53 := Tryd.zeroValue58
  t70 := Tryd.underlying91
  a70 := Tryd.isAgg91
  z70 := Tryd.sizeOf91
  v70 := Tryd.zeroValue91
  t72 := Tryd.underlying93
  a72 := Tryd.isAgg93
  z72 := Tryd.sizeOf93
  v72 := Tryd.zeroValue93
  t75 := Tryd.underlying75
  a75 := Tryd.isAgg75
  z75 := Tryd.sizeOf75
  v75 := Tryd.zeroValue75
  t76 := Tryd.underlying95
  a76 := Tryd.isAgg95
  z76 := Tryd.sizeOf95
  v76 := Tryd.zeroValue95
  t109 := Tryd.underlying89
  a109 := Tryd.isAgg89
  z109 := Tryd.sizeOf89
  v109 := Tryd.zeroValue89
  t127 := Tryd.underlying106
  a127 := Tryd.isAgg106
  z127 := Tryd.sizeOf106
  v127 := Tryd.zeroValue106
  t146 := Tryd.underlying102
  a146 := Tryd.isAgg102
  z146 := Tryd.sizeOf102
  v146 := Tryd.zeroValue102
  t148 := Tryd.underlying104
  a148 := Tryd.isAgg104
  z148 := Tryd.sizeOf104
  v148 := Tryd.zeroValue104
  t164 := Tryd.underlying118
  a164 := Tryd.isAgg118
  z164 := Tryd.sizeOf118
  v164 := Tryd.zeroValue118 }
theorem Tryd.Builder_Extra_105 : Builder.Extra Tryd.prog Tryd.lays105_ren := {
  sizeBuilder := by kernel_rfl
  liesBuilder := by kernel_rfl
  t5 := Tryd.underlying5
  a5 := Tryd.isAgg5
  z5 := Tryd.sizeOf5
  v5 := Tryd.zeroValue5
  infoByte := by kernel_rfl
  cellsByte := by kernel_rfl
  sizeByte := by kernel_rfl
  neB5 := by decide }
open Go.RowKit Go.Lib in
theorem Tryd.strings_Repeat (s : ByteArray) (c : Nat) (w : World) (hc : c ≤ 9223372036854775807) (hlen : s.size * c ≤ 140737488355328) :
    Calls Tryd.prog 48 #[.string s, .int .i64 c] w fun e w' => e = .returned (.string ⟨(Lib.repeatL s.data.toList c).toArray⟩) ∧ Below w.heap.size w w' := Any.strings_Repeat Tryd.lays105 Tryd.Builder_Extra_105 s c w hc hlen
end Go.Proofs
namespace Go.Proofs.YtiikfhdmclmjmaaDoor.P
open Go.RowKit Go.Proofs.YtiikfhdmclmjmaaDoorW.PrintWords Go.Proofs.YtiikfhdmclmjmaaDoorW.PrintLast
set_option linter.unusedVariables false
set_option linter.unusedSimpArgs false
def errW : Option Int → Value
  | none => .nilIface
  | some c => .iface 108 (.int .i64 c)
theorem errW_none : errW none = .nilIface := rfl
theorem errW_some (c : Int) : errW (some c) = .iface 108 (.int .i64 c) := rfl
def G (w : World) : Prop := Lib.TabIs Tryd.prog w "internal/strconv.uint64pow10" .u64 Lib.pow10Tab
theorem G_below {w w' : World} (h : G w) (hb : Below w.heap.size w w') : G w' := by
  unfold G Lib.TabIs World.var? at *
  obtain ⟨g, hg⟩ : ∃ g, Tryd.prog.globalNamed "internal/strconv.uint64pow10" = some g := by
    cases hg : Tryd.prog.globalNamed "internal/strconv.uint64pow10" with
    | none => rw [hg] at h; simp at h
    | some g => exact ⟨g, rfl⟩
  simp only [hg, Option.bind_some] at h ⊢
  by_cases hl : g < w.heap.size
  · rw [hb.block g hl]; exact h
  · rw [show w.heap[g]? = none by simp; omega] at h; simp at h
theorem below_grow_ (w : World) (k : Nat) (os : Array Obj) : Below w.heap.size w (Go.Sort.grow (w.drewN k) os) :=
  ⟨rfl, rfl, rfl, by simp [Go.Sort.grow], fun i hi => by simp [Go.Sort.grow, Array.getElem?_append, hi]⟩
theorem wrap64_of_ (z : Int) (h0 : -9223372036854775808 ≤ z) (h1 : z ≤ 9223372036854775807) : wrap64 z = z := by unfold wrap64; omega
theorem cell_same {w : World} {p q : Addr} {u v : Value} (hq : w.cell? q = some u) (hp : w.cell? p = some v) : (w.setCell p v).cell? q = some u := by
  by_cases e : p = q
  · subst e
    rw [hq] at hp
    cases hp
    exact World.cell?_setCell_same w p _ hq
  · exact (World.cell?_setCell_other w p q _ e).trans hq
theorem info3 : (Tryd.prog.info? 3).map (fun i => (i.zero, i.size, i.bytes)) = some (some (.int .i64 0), 1, 8) := by kernel_rfl
theorem info5 : (Tryd.prog.info? 5).map (fun i => (i.zero, i.size, i.bytes)) = some (some (.int .u8 0), 1, 1) := by kernel_rfl
theorem info9 : (Tryd.prog.info? 9).map (fun i => (i.zero, i.size, i.bytes)) = some (some (.string ⟨#[]⟩), 1, 16) := by kernel_rfl
theorem info60 : (Tryd.prog.info? 60).map (fun i => (i.zero, i.size, i.bytes)) = some (some (.int .u32 0), 1, 4) := by kernel_rfl
structure S25 where
  f0 : Bool
  f1 : (List Int)
def z25 : S25 := ⟨false, ([] : List Int)⟩
def integer_trim.l0 : Nat → List Int → Option (List Int)
 | 0, _ => none
 | k + 1, x0 => if (x0.length : Int) > 0 then (if 0 ≤ (wrap64 ((x0.length : Int) - 1)) then (if (wrap64 ((x0.length : Int) - 1)) < (x0.length : Int) then (if (rd x0 (wrap64 ((x0.length : Int) - 1))) = 0 then (if (wrap64 ((x0.length : Int) - 1)) ≤ (x0.length : Int) then (integer_trim.l0 k (x0.take ((wrap64 ((x0.length : Int) - 1)) : Int).toNat)) else (none)) else (some x0)) else (none)) else (none)) else (some x0)
def integer_trim.f (k : Nat) (l0 : List Int) : Option (List Int) := integer_trim.l0 k l0
theorem integer_trim.mono_l : ∀ k, (∀ y0, LeO (integer_trim.l0 k y0) (integer_trim.l0 (k + 1) y0))
 | 0 => fun _ r h => by simp [integer_trim.l0] at h
 | k + 1 => by
  have ih0 := integer_trim.mono_l k
  ·
   intro y0
   unfold integer_trim.l0
   repeat' first
   | (with_reducible exact ih0 _)
   | (with_reducible exact LeO.refl _)
   | (with_reducible exact LeO.none _)
   | (with_reducible refine LeO.ite ?_ ?_)
   | (with_reducible refine LeO.bind ?_ (fun _ => ?_))
   | exact ih0 _
   | exact LeO.none _
   | refine LeO.ite ?_ ?_
   | refine LeO.bind ?_ (fun _ => ?_)
theorem integer_trim.mono : ∀ a0 k, LeO (integer_trim.f k a0) (integer_trim.f (k + 1) a0) := by
 intro a0 k
 have ih0 := integer_trim.mono_l k
 unfold integer_trim.f
 repeat' first
   | (with_reducible exact ih0 _)
   | (with_reducible exact LeO.refl _)
   | (with_reducible exact LeO.none _)
   | (with_reducible refine LeO.ite ?_ ?_)
   | (with_reducible refine LeO.bind ?_ (fun _ => ?_))
   | exact ih0 _
   | exact LeO.none _
   | refine LeO.ite ?_ ?_
   | refine LeO.bind ?_ (fun _ => ?_)
set_option maxHeartbeats 8000000 in
set_option maxRecDepth 100000 in
theorem integer_trim.calls (k : Nat) (P0_ : Nat → Prop) (A0 : Option Addr) (c0 : Nat) (l0 : List Int) (r : List Int) (w : World) (hs0 : Kd.V (Kd.int .u32) 60 w w.heap.size (fun k_ => P0_ k_) (.slice A0 l0.length c0) l0) (h : integer_trim.f k l0 = some r) :
  Calls Tryd.prog 67 #[.slice A0 l0.length c0] w fun e w' => ∃ v0_ : Value, e = .returned (v0_) ∧ Kd.V (Kd.int .u32) 60 w' w.heap.size (fun k_ => (P0_ k_ ∨ w.heap.size ≤ k_)) v0_ r ∧ Below w.heap.size w w' := by
 have HO0 := Aside0.mk (show Kd.V (Kd.int .u32) 60 w w.heap.size (fun k_ => (P0_ k_ ∨ w.heap.size ≤ k_)) (.slice A0 l0.length c0) l0 from Kd.V_mono hs0 (fun k_ hk => .inl hk))
 have HB := Aside0.mk (Below.refl w.heap.size w)
 have H : (integer_trim.l0 k l0) = some r := h
 clear h
 have H' := Aside0.mk H
 clear H
 go_enter Tryd.func67, Tryd.ntmps67
 go_wp2
 go_loopg [0] k (fun kq v0 w' => ∃ (x0_1 : List Int), Aside0 (integer_trim.l0 kq x0_1 = some r) ∧ Aside0 (kq ≤ k) ∧ Aside0 (Kd.V (Kd.int .u32) 60 w' w.heap.size (fun k_ => (P0_ k_ ∨ w.heap.size ≤ k_)) v0 x0_1) ∧ Aside0 (Below w.heap.size w w'))
 case atStart => exact ⟨(l0), H', ⟨Nat.le_refl _⟩, ⟨by (with_reducible repeat (first | apply Kd.V_alloc | apply Kd.V_drewN | apply Kd.V_drew)); exact HO0.out⟩, ⟨by repeat (first | (with_reducible first | exact HB.out | apply below_alloc | apply pw_below_drewN | apply below_drew1) | exact HB.out)⟩⟩
 case round =>
  clear H'
  obtain ⟨x0_1, HA, HK1, HO_0, HB⟩ := hrel
  cases gk with
  | zero => exact absurd HA.out (by simp [integer_trim.l0])
  | succ k1 =>
   have H := HA.out
   clear HA
   simp only [integer_trim.l0] at H
   by_cases c2 : (x0_1.length : Int) > 0
   ·
    rw [if_pos c2] at H
    have c2b0 : decide (0 < (x0_1.length : Int)) = true := decide_eq_true c2
    have c2b1 : decide (0 < x0_1.length) = true := decide_eq_true (by omega)
    clear c2
    obtain ⟨ji3, hji3⟩ : ∃ j_ : Int, (wrap64 ((x0_1.length : Int) - 1)) = j_ := ⟨_, rfl⟩
    replace H : (if 0 ≤ (ji3) then (if (ji3) < (x0_1.length : Int) then (if (rd x0_1 (ji3)) = 0 then (if (ji3) ≤ (x0_1.length : Int) then (integer_trim.l0 k1 (x0_1.take ((ji3) : Int).toNat)) else (none)) else (some x0_1)) else (none)) else (none)) = some r := by first | (rw [hji3] at H; exact H) | (simp only [hji3] at H ⊢; exact H)
    have hji3w : (IntKind.i64.wrap ((x0_1.length : Int) - 1)) = ji3 := (i64_w _).trans hji3
    by_cases c4 : 0 ≤ (ji3)
    ·
     rw [if_pos c4] at H
     have c4b0 : decide (0 ≤ (ji3)) = true := decide_eq_true c4
     clear c4
     by_cases c5 : (ji3) < (x0_1.length : Int)
     ·
      rw [if_pos c5] at H
      have c5b0 : decide ((ji3) < (x0_1.length : Int)) = true := decide_eq_true c5
      clear c5
      by_cases c6 : (rd x0_1 (ji3)) = 0
      ·
       rw [if_pos c6] at H
       have c6b0 : ((rd x0_1 (ji3)) == 0) = true := beq_iff_eq.mpr c6
       have c6b1 : ((rd x0_1 (ji3)) != 0) = false := bne_eq_false_iff_eq.mpr c6
       clear c6
       have c7b0 := eq_true (of_decide_eq_true (by assumption) : 0 ≤ (ji3))
       by_cases c8 : (ji3) ≤ (x0_1.length : Int)
       ·
        rw [if_pos c8] at H
        have c8b0 := eq_true c8
        have c8b1 : decide ((ji3) ≤ (x0_1.length : Int)) = true := decide_eq_true c8
        clear c8
        obtain ⟨y102, hy102⟩ : ∃ y_ : List Int, y_ = (x0_1.take ((ji3) : Int).toNat) := ⟨_, rfl⟩
        replace H : (integer_trim.l0 k1 y102) = some r := by first | (rw [hy102]; with_reducible exact H) | (have H2_ := (Option.bind_some _ _).symm.trans H; rw [hy102]; with_reducible exact H2_) | (have H2_ := (Option.bind_some _ _).symm.trans H; with_reducible exact H2_) | with_reducible exact H | (rw [hy102]; exact H) | exact H
        have Ny102 := Aside0.mk hy102
        clear hy102
        have H' := Aside0.mk H
        clear H
        obtain ⟨Ao9, co9, eo9⟩ := Kd.V_slice HO_0.out
        subst eo9
        have p101 : 0 ≤ ((ji3) : Int) := of_decide_eq_true (by assumption)
        have q101 : (ji3) < (x0_1.length : Int) := of_decide_eq_true (by assumption)
        obtain ⟨ad101, e101, hx101_0⟩ := Kd.at_int (Kd.V_reads' HO_0.out).2.2 (ji3) p101 q101
        cases e101
        replace p101 := eq_true p101
        replace q101 := eq_true q101
        have q10 : ((ji3) : Int) ≤ ((x0_1.length : Int) : Int) := of_decide_eq_true (by assumption)
        obtain ⟨i010, hi010, _, hsz10, _⟩ := info_parts info60
        have hroom10 : x0_1.length ≤ co9 := (Kd.V_reads' HO_0.out).2.1
        have hC10 : Kd.F (Kd.int .u32) _ _ (some ad101) x0_1.length x0_1 := (Kd.V_at (base := w.heap.size) HO_0.out).2.2
        have hcut10 := cut_to (P := Tryd.prog) 23 60 .i64 Tryd.underlying23 hi010 (some ad101) x0_1.length co9 (ji3) (of_decide_eq_true (by assumption)) q10 hroom10
        have hr10 := Kd.F_take (m := ((ji3) : Int).toNat) hC10 (by omega)
        have hy10 : y102.length = ((ji3) : Int).toNat := (by rw [Ny102.out, List.length_take]; omega)
        rw [← Ny102.out] at hr10
        rw [← hy10] at hcut10
        have HO106 := Aside0.mk (show Kd.V (Kd.int .u32) 60 _ w.heap.size _ (.slice (some ad101) y102.length co9) y102 from Kd.V_mk (by omega) hr10)
        have HC106 := Aside0.mk (show y102.length ≤ co9 from by omega)
        clear hr10 hC10 hroom10 hi010 hsz10
        have KY10 := Aside0.mk hy10
        clear hy10
        replace q10 := eq_true q10
        go_wp2
        go_roundg k1
        case measure => have := HK1.out; omega
        case rel => exact ⟨(y102), H', ⟨by have := HK1.out; omega⟩, ⟨by (with_reducible repeat (first | apply Kd.V_alloc | apply Kd.V_drewN | apply Kd.V_drew)); exact HO106.out⟩, ⟨by repeat (first | (with_reducible first | exact HB.out | apply below_alloc | apply pw_below_drewN | apply below_drew1) | exact HB.out)⟩⟩
       ·
        rw [if_neg c8] at H
        exact absurd H (by simp)
      ·
       rw [if_neg c6] at H
       have c6b0 : ((rd x0_1 (ji3)) == 0) = false := beq_eq_false_iff_ne.mpr c6
       have c6b1 : ((rd x0_1 (ji3)) != 0) = true := bne_iff_ne.mpr c6
       obtain rfl := Option.some.inj H
       obtain ⟨Ao11, co11, eo11⟩ := Kd.V_slice HO_0.out
       subst eo11
       have p101 : 0 ≤ ((ji3) : Int) := of_decide_eq_true (by assumption)
       have q101 : (ji3) < (x0_1.length : Int) := of_decide_eq_true (by assumption)
       obtain ⟨ad101, e101, hx101_0⟩ := Kd.at_int (Kd.V_reads' HO_0.out).2.2 (ji3) p101 q101
       cases e101
       replace p101 := eq_true p101
       replace q101 := eq_true q101
       go_wp2
       go_ret
       exact ⟨_, by first | rfl | (simp [errW_none, errW_some] <;> rfl) | (simp only [← hji3]; first | rfl | (simp [errW_none, errW_some] <;> rfl)) | (simp [*, errW_none, errW_some] <;> rfl), by (with_reducible repeat (first | apply Kd.V_alloc | apply Kd.V_drewN | apply Kd.V_drew)); exact HO_0.out, by repeat (first | (with_reducible first | exact HB.out | apply below_alloc | apply pw_below_drewN | apply below_drew1) | exact HB.out)⟩
     ·
      rw [if_neg c5] at H
      exact absurd H (by simp)
    ·
     rw [if_neg c4] at H
     exact absurd H (by simp)
   ·
    rw [if_neg c2] at H
    have c2b0 : decide (0 < (x0_1.length : Int)) = false := decide_eq_false c2
    have c2b1 : decide (0 < x0_1.length) = false := decide_eq_false (by omega)
    clear c2
    obtain rfl := Option.some.inj H
    obtain ⟨Ao12, co12, eo12⟩ := Kd.V_slice HO_0.out
    subst eo12
    go_wp2
    go_ret
    exact ⟨_, by first | rfl | (simp [errW_none, errW_some] <;> rfl) | (simp [*, errW_none, errW_some] <;> rfl), by (with_reducible repeat (first | apply Kd.V_alloc | apply Kd.V_drewN | apply Kd.V_drew)); exact HO_0.out, by repeat (first | (with_reducible first | exact HB.out | apply below_alloc | apply pw_below_drewN | apply below_drew1) | exact HB.out)⟩
def integer_short.l0 : Nat → List Int → Int → List Int → Int → Int → Option (List Int × Int)
 | 0, _, _, _, _, _ => none
 | k + 1, x0, x1, x6, x7, x8 => if x8 ≥ 0 then (if 0 ≤ x8 then (if x8 < (x0.length : Int) then (if (IntKind.u64.wrap (x1)) = 0 then (none) else (if x8 < (x6.length : Int) then (integer_short.l0 k x0 x1 (x6.set (x8 : Int).toNat ((IntKind.u64.wrap (Int.tdiv (Go.bits .or .u64 (IntKind.u64.wrap (x7 * 4294967296)) (IntKind.u64.wrap (rd x0 x8))) (IntKind.u64.wrap (x1)))) % 4294967296)) (Int.tmod (Go.bits .or .u64 (IntKind.u64.wrap (x7 * 4294967296)) (IntKind.u64.wrap (rd x0 x8))) (IntKind.u64.wrap (x1))) (wrap64 (x8 - 1))) else (none))) else (none)) else (none)) else ((integer_trim.f k x6).bind fun t131 => (some (t131, (x7) % 4294967296)))
def integer_short.f (k : Nat) (l0 : List Int) (a1 : Int) : Option (List Int × Int) := if 0 ≤ (l0.length : Int) then (if ((l0.length : Int) : Int).toNat ≤ 70368744177664 then (integer_short.l0 k l0 a1 (List.replicate ((l0.length : Int) : Int).toNat 0) 0 (wrap64 ((l0.length : Int) - 1))) else (none)) else (none)
theorem integer_short.mono_l : ∀ k, (∀ y0 y1 y2 y3 y4, LeO (integer_short.l0 k y0 y1 y2 y3 y4) (integer_short.l0 (k + 1) y0 y1 y2 y3 y4))
 | 0 => fun _ _ _ _ _ r h => by simp [integer_short.l0] at h
 | k + 1 => by
  have ih0 := integer_short.mono_l k
  ·
   intro y0 y1 y2 y3 y4
   unfold integer_short.l0
   repeat' first
   | (with_reducible exact ih0 _ _ _ _ _)
   | (with_reducible exact integer_trim.mono _ _)
   | (with_reducible exact LeO.refl _)
   | (with_reducible exact LeO.none _)
   | (with_reducible refine LeO.ite ?_ ?_)
   | (with_reducible refine LeO.bind ?_ (fun _ => ?_))
   | exact ih0 _ _ _ _ _
   | exact integer_trim.mono _ _
   | exact LeO.none _
   | refine LeO.ite ?_ ?_
   | refine LeO.bind ?_ (fun _ => ?_)
theorem integer_short.mono : ∀ a0 a1 k, LeO (integer_short.f k a0 a1) (integer_short.f (k + 1) a0 a1) := by
 intro a0 a1 k
 have ih0 := integer_short.mono_l k
 unfold integer_short.f
 repeat' first
   | (with_reducible exact ih0 _ _ _ _ _)
   | (with_reducible exact integer_trim.mono _ _)
   | (with_reducible exact LeO.refl _)
   | (with_reducible exact LeO.none _)
   | (with_reducible refine LeO.ite ?_ ?_)
   | (with_reducible refine LeO.bind ?_ (fun _ => ?_))
   | exact ih0 _ _ _ _ _
   | exact integer_trim.mono _ _
   | exact LeO.none _
   | refine LeO.ite ?_ ?_
   | refine LeO.bind ?_ (fun _ => ?_)
set_option maxHeartbeats 8000000 in
set_option maxRecDepth 100000 in
theorem integer_short.calls (k : Nat) (A0 : Option Addr) (c0 : Nat) (l0 : List Int) (a1 : Int) (r1 : List Int) (r2 : Int) (w : World) (hr0 : Kd.C (Kd.int .u32) w A0 l0.length l0) (hc0 : l0.length ≤ c0) (h : integer_short.f k l0 a1 = some (r1, r2)) :
  Calls Tryd.prog 46 #[.slice A0 l0.length c0, .int .u32 a1] w fun e w' => ∃ v0_ : Value, e = .returned (.tuple #[v0_, .int .u32 r2]) ∧ Kd.V (Kd.int .u32) 60 w' w.heap.size (fun k_ => (w.heap.size ≤ k_)) v0_ r1 ∧ Below w.heap.size w w' := by
 have HR0 := Aside0.mk hr0
 have HC0 := Aside0.mk hc0
 clear hr0 hc0
 have HB := Aside0.mk (Below.refl w.heap.size w)
 have H : (if 0 ≤ (l0.length : Int) then (if ((l0.length : Int) : Int).toNat ≤ 70368744177664 then (integer_short.l0 k l0 a1 (List.replicate ((l0.length : Int) : Int).toNat 0) 0 (wrap64 ((l0.length : Int) - 1))) else (none)) else (none)) = some (r1, r2) := h
 clear h
 by_cases c3 : 0 ≤ (l0.length : Int)
 ·
  rw [if_pos c3] at H
  have c3b0 := eq_true c3
  have c3b1 : decide (0 ≤ (l0.length : Int)) = true := decide_eq_true c3
  clear c3
  by_cases c4 : ((l0.length : Int) : Int).toNat ≤ 70368744177664
  ·
   rw [if_pos c4] at H
   have c4b0 := eq_true c4
   have c4b1 : decide (((l0.length : Int) : Int).toNat ≤ 70368744177664) = true := decide_eq_true c4
   clear c4
   obtain ⟨y126, hy126⟩ : ∃ y_ : List Int, y_ = (List.replicate ((l0.length : Int) : Int).toNat 0) := ⟨_, rfl⟩
   replace H : (integer_short.l0 k l0 a1 y126 0 (wrap64 ((l0.length : Int) - 1))) = some (r1, r2) := by first | (rw [hy126]; with_reducible exact H) | (have H2_ := (Option.bind_some _ _).symm.trans H; rw [hy126]; with_reducible exact H2_) | (have H2_ := (Option.bind_some _ _).symm.trans H; with_reducible exact H2_) | with_reducible exact H | (rw [hy126]; exact H) | exact H
   have Ny126 := Aside0.mk hy126
   clear hy126
   have H' := Aside0.mk H
   clear H
   go_enter Tryd.func46, Tryd.ntmps46
   go_wp2_with (first | ((with_reducible refine gate_dst (N := 11) rfl ?_); refine Kd.R_make (Kd.int .u32) _ 60 rfl (N := 11) rfl 23 _ _ rfl (l0.length : Int) rfl rfl Tryd.underlying23 (.int .u32 0) 4 info60 rfl (by decide) (by omega) 0 (ok := fun _ => True) (okp := fun _ => True) rfl (fun _ hk => hk) trivial (of_decide_eq_true (by assumption)) (Nat.le_trans (Nat.mul_le_mul_right _ (of_decide_eq_true (by assumption) : (l0.length : Int).toNat ≤ 70368744177664)) (by omega)) (Below.refl _ _) (Nat.le_refl _) ?_; intro v127 w5 ho6 hb hg_ hnew_; clear hg_ hnew_; (first | rw [← Ny126.out] at ho6 | (simp only [Int.reduceToNat] at ho6; rw [← Ny126.out] at ho6)); have n0_ := Aside0.mk (Kd.R_lower (Kd.R_newM (M := fun k_ => (w.heap.size ≤ k_)) ho6 (below_size (by repeat (first | (with_reducible first | exact HB.out | apply below_alloc | apply pw_below_drewN | apply below_drew1) | exact HB.out))) (fun k_ h_ => h_)) (below_size (by repeat (first | (with_reducible first | exact HB.out | apply below_alloc | apply pw_below_drewN | apply below_drew1) | exact HB.out)))); have n1_ := Aside0.mk (below_step (by repeat (first | (with_reducible first | exact HB.out | apply below_alloc | apply pw_below_drewN | apply below_drew1) | exact HB.out)) hb); clear HB; have HO128 := n0_; have HB := n1_; clear n0_ n1_; clear hb ho6))
   go_loopg [7, 8] k (fun kq v7 v8 w' => ∃ (x6_1 : List Int) (x7_1 : Int) (x8_1 : Int), v7 = .int .u64 x7_1 ∧ v8 = .int .i64 x8_1 ∧ Aside0 (integer_short.l0 kq l0 a1 x6_1 x7_1 x8_1 = some (r1, r2)) ∧ Aside0 (kq ≤ k) ∧ Aside0 (Kd.R (Kd.int .u32) 60 w' w.heap.size (fun k_ => (w.heap.size ≤ k_)) v127 x6_1) ∧ Aside0 (Below w.heap.size w w'))
   case atStart => exact ⟨(y126), (0), (wrap64 ((l0.length : Int) - 1)), (by first | rfl | (simp; done) | (simp [*]; done) | (simp <;> omega)), (by first | rfl | (simp; done) | (simp [*]; done) | (simp <;> omega)), H', ⟨Nat.le_refl _⟩, ⟨by (with_reducible repeat (first | apply Kd.R_alloc | apply Kd.R_drewN | apply Kd.R_drew)); exact Kd.R_mono HO128.out (fun _ hk => hk.1)⟩, ⟨by repeat (first | (with_reducible first | exact HB.out | apply below_alloc | apply pw_below_drewN | apply below_drew1) | exact HB.out)⟩⟩
   case round =>
    clear H'
    try clear p2
    try clear c3
    try clear c3b0
    try clear c3b1
    try clear c4
    try clear c4b0
    try clear c4b1
    try clear p6
    obtain ⟨x6_1, x7_1, x8_1, rfl, rfl, HA, HK1, HO_6, HB⟩ := hrel
    cases gk with
    | zero => exact absurd HA.out (by simp [integer_short.l0])
    | succ k1 =>
     have H := HA.out
     clear HA
     simp only [integer_short.l0] at H
     by_cases c7 : x8_1 ≥ 0
     ·
      rw [if_pos c7] at H
      have c7b0 : decide (0 ≤ x8_1) = true := decide_eq_true c7
      clear c7
      by_cases c8 : 0 ≤ x8_1
      ·
       rw [if_pos c8] at H
       have c8b0 : decide (0 ≤ x8_1) = true := decide_eq_true c8
       clear c8
       by_cases c9 : x8_1 < (l0.length : Int)
       ·
        rw [if_pos c9] at H
        have c9b0 : decide (x8_1 < (l0.length : Int)) = true := decide_eq_true c9
        clear c9
        by_cases c10 : (IntKind.u64.wrap (a1)) = 0
        ·
         rw [if_pos c10] at H
         exact absurd H (by simp)
        ·
         rw [if_neg c10] at H
         have c10b0 : ((IntKind.u64.wrap (a1)) == 0) = false := beq_eq_false_iff_ne.mpr c10
         have c10b1 : ((IntKind.u64.wrap (a1)) != 0) = true := bne_iff_ne.mpr c10
         by_cases c11 : x8_1 < (x6_1.length : Int)
         ·
          rw [if_pos c11] at H
          have c11b0 : decide (x8_1 < (x6_1.length : Int)) = true := decide_eq_true c11
          clear c11
          obtain ⟨y130, hy130⟩ : ∃ y_ : List Int, y_ = (x6_1.set (x8_1 : Int).toNat ((IntKind.u64.wrap (Int.tdiv (Go.bits .or .u64 (IntKind.u64.wrap (x7_1 * 4294967296)) (IntKind.u64.wrap (rd l0 x8_1))) (IntKind.u64.wrap (a1)))) % 4294967296)) := ⟨_, rfl⟩
          replace H : (integer_short.l0 k1 l0 a1 y130 (Int.tmod (Go.bits .or .u64 (IntKind.u64.wrap (x7_1 * 4294967296)) (IntKind.u64.wrap (rd l0 x8_1))) (IntKind.u64.wrap (a1))) (wrap64 (x8_1 - 1))) = some (r1, r2) := by first | (rw [hy130]; with_reducible exact H) | (have H2_ := (Option.bind_some _ _).symm.trans H; rw [hy130]; with_reducible exact H2_) | (have H2_ := (Option.bind_some _ _).symm.trans H; with_reducible exact H2_) | with_reducible exact H | (rw [hy130]; exact H) | exact H
          have Ny130 := Aside0.mk hy130
          clear hy130
          have H' := Aside0.mk H
          clear H
          have p129 : 0 ≤ (x8_1 : Int) := of_decide_eq_true (by assumption)
          have q129 : x8_1 < (l0.length : Int) := of_decide_eq_true (by assumption)
          obtain ⟨ad129, e129, hx129_0⟩ := Kd.at_int HR0.out x8_1 p129 q129
          cases e129
          replace hx129_0 := (HB.out.cell (World.block_lt_of_cell? w _ hx129_0)).trans hx129_0
          replace p129 := eq_true p129
          replace q129 := eq_true q129
          have p12 : 0 ≤ (x8_1 : Int) := of_decide_eq_true (by assumption)
          have q12 : (x8_1 : Int) < ((x6_1.length : Int) : Int) := of_decide_eq_true (by assumption)
          obtain ⟨go12, co12, eo12, gb12, gl12, cl12, HG12⟩ := Kd.R_form HO_6.out (by omega)
          (first | cases eo12 | (injection eo12 with ea_ en_ ec_; (first | subst ea_ | (injection ea_ with ea_; subst ea_)); subst ec_; clear en_))
          have GB12 := Aside0.mk gb12
          have GG12 := Aside0.mk HG12
          clear gb12 gl12 HG12
          obtain ⟨hx12_0, hf12_0⟩ := Kd.R_celln 0 HO_6.out (x8_1 : Int) p12 q12
          replace p12 := eq_true p12
          replace q12 := eq_true q12
          have HP13 := Kd.R_putg HO_6.out (x8_1 : Int) ((IntKind.u64.wrap (Int.tdiv (Go.bits .or .u64 (IntKind.u64.wrap (x7_1 * 4294967296)) (IntKind.u64.wrap (rd l0 x8_1))) (IntKind.u64.wrap (a1)))) % 4294967296)
          go_wp2_with (first | ((with_reducible refine gate_store (t := 60) (p := 34) rfl ?_); refine store_event (t := 60) (p := 34) (v := ?vo_w14) (w1 := (wr.setCell ⟨go12, (x8_1 : Int).toNat, none⟩ (.int .u32 ((IntKind.u64.wrap (Int.tdiv (Go.bits .or .u64 (IntKind.u64.wrap (x7_1 * 4294967296)) (IntKind.u64.wrap (rd l0 x8_1))) (IntKind.u64.wrap (a1)))) % 4294967296)))) ?hg ?ho ?hn ?hr ?_; (case ho => rfl); (case hg => rfl); (case hn => rfl); (case hr => first | (go_simp; done) | (go_simp; rfl)); intro w14 hw; have hg : wr.grownBy w14 (some go12) := (by rw [hw]; exact HP13.2); have hp_ : Kd.R (Kd.int .u32) 60 w14 w.heap.size (fun k_ => (w.heap.size ≤ k_)) (.slice (some ⟨go12, 0, none⟩) x6_1.length co12) y130 := (by rw [hw, Ny130.out]; exact HP13.1); clear HP13; have n0_ := Aside0.mk (hp_); have n1_ := Aside0.mk ((by rw [hw]; exact below_set (HB.out) GB12.out : Below w.heap.size w w14)); clear HO_6; clear HB; have HO_6 := n0_; have HB := n1_; clear n0_ n1_; clear hg hw hp_))
          go_roundg k1
          case measure => have := HK1.out; omega
          case rel => exact ⟨(y130), (Int.tmod (Go.bits .or .u64 (IntKind.u64.wrap (x7_1 * 4294967296)) (IntKind.u64.wrap (rd l0 x8_1))) (IntKind.u64.wrap (a1))), (wrap64 (x8_1 - 1)), (by first | rfl | (simp; done) | (simp [*]; done) | (simp <;> omega)), (by first | rfl | (simp; done) | (simp [*]; done) | (simp <;> omega)), H', ⟨by have := HK1.out; omega⟩, ⟨by (with_reducible repeat (first | apply Kd.R_alloc | apply Kd.R_drewN | apply Kd.R_drew)); exact HO_6.out⟩, ⟨by repeat (first | (with_reducible first | exact HB.out | apply below_alloc | apply pw_below_drewN | apply below_drew1) | exact HB.out)⟩⟩
         ·
          rw [if_neg c11] at H
          exact absurd H (by simp)
       ·
        rw [if_neg c9] at H
        exact absurd H (by simp)
      ·
       rw [if_neg c8] at H
       exact absurd H (by simp)
     ·
      rw [if_neg c7] at H
      have c7b0 : decide (0 ≤ x8_1) = false := decide_eq_false c7
      clear c7
      replace H := Option.bind_eq_some_iff.mp H
      obtain ⟨t131, A150, H⟩ := H
      replace H : (some (t131, (x7_1) % 4294967296)) = some (r1, r2) := H
      have A15 := Aside0.mk A150
      clear A150
      simp only [Option.some.injEq, Prod.mk.injEq] at H
      obtain ⟨rfl, rfl⟩ := H
      obtain ⟨Ao16, co16, eo16⟩ := Kd.R_slice HO_6.out
      subst eo16
      go_wp2_with (first | ((with_reducible refine gate_callee (f := 67) rfl ?_); refine goesL_ (some 40) rfl rfl Tryd.func67 (by kernel_rfl) rfl #[.slice Ao16 x6_1.length co16] rfl (by (try simp only [List.map_toArray, List.map_cons, List.map_nil]); first | done | rfl | (simp only [List.length_drop, List.length_take]; rfl)) ?_; (with_reducible refine (integer_trim.calls k1 (fun k_ => some k_ = (.slice Ao16 x6_1.length co16 : Value).ownBlock) _ _ x6_1 t131 _ ?side1 A15.out).mono ?_); (case side1 => exact Kd.R_V (Kd.R_tight rfl (HO_6.out))); rintro e w17 ⟨v132, rfl, ho0, hb⟩; refine ⟨_, rfl, ?_⟩; have n0_ := Aside0.mk (Kd.R_below (by (with_reducible repeat (first | apply Kd.R_alloc | apply Kd.R_drewN | apply Kd.R_drew)); exact HO_6.out) hb); have n1_ := Aside0.mk (Kd.V_lower (Kd.V_mono (ok' := fun k_ => (w.heap.size ≤ k_)) ho0 (fun k_ hk_ => Or.elim hk_ (fun hs_ => ((HO_6.out).1 k_ hs_.symm)) (fun hn_ => (Nat.le_trans (below_size (by repeat (first | (with_reducible first | exact HB.out | apply below_alloc | apply pw_below_drewN | apply below_drew1) | exact HB.out))) hn_)))) (below_size (by repeat (first | (with_reducible first | exact HB.out | apply below_alloc | apply pw_below_drewN | apply below_drew1) | exact HB.out)))); have n2_ := Aside0.mk (below_step (by repeat (first | (with_reducible first | exact HB.out | apply below_alloc | apply pw_below_drewN | apply below_drew1) | exact HB.out)) hb); clear HO_6; clear HB; have HO_6 := n0_; have HO133 := n1_; have HB := n2_; clear n0_ n1_ n2_; (try clear hb); (try clear hb2); (try clear hk); (try clear hi); (try clear ho0)))
      go_ret2
      exact ⟨_, by first | rfl | (simp [errW_none, errW_some] <;> rfl) | (simp [*, errW_none, errW_some] <;> rfl), by (with_reducible repeat (first | apply Kd.V_alloc | apply Kd.V_drewN | apply Kd.V_drew)); exact HO133.out, by repeat (first | (with_reducible first | exact HB.out | apply below_alloc | apply pw_below_drewN | apply below_drew1) | exact HB.out)⟩
  ·
   rw [if_neg c4] at H
   exact absurd H (by simp)
 ·
  rw [if_neg c3] at H
  exact absurd H (by simp)
def strconv_Itoa_47.f (a0 : Int) : Option ByteArray := if -9223372036854775808 ≤ a0 ∧ a0 ≤ 9223372036854775807 then some ⟨(Lib.itoa a0).toArray⟩ else none
theorem strconv_Itoa_47.calls (a0 : Int) (r : ByteArray) (w : World) (hG : G w) (h : strconv_Itoa_47.f a0 = some r) :
  Calls Tryd.prog 47 #[.int .i64 a0] w fun e w' => e = .returned (.string r) ∧ Below w.heap.size w w' := by
 unfold strconv_Itoa_47.f at h
 split at h
 ·
  rename_i hb
  simp only [Option.some.injEq] at h
  subst h
  refine (Tryd.strconv_Itoa a0 hb.1 hb.2 w hG).mono ?_
  rintro e w' ⟨rfl, k, os, rfl⟩
  exact ⟨rfl, below_grow_ w k os⟩
 ·
  cases h
def strings_Repeat.f (a0 : ByteArray) (a1 : Int) : Option ByteArray := if 0 ≤ a1 ∧ a1 ≤ 9223372036854775807 ∧ a0.size * a1.toNat ≤ 140737488355328 then some ⟨(Lib.repeatL a0.data.toList a1.toNat).toArray⟩ else none
theorem strings_Repeat.calls (a0 : ByteArray) (a1 : Int) (r : ByteArray) (w : World) (h : strings_Repeat.f a0 a1 = some r) :
  Calls Tryd.prog 48 #[.string a0, .int .i64 a1] w fun e w' => e = .returned (.string r) ∧ Below w.heap.size w w' := by
 unfold strings_Repeat.f at h
 split at h
 ·
  rename_i hb
  simp only [Option.some.injEq] at h
  subst h
  have := Tryd.strings_Repeat a0 a1.toNat w (by omega) hb.2.2
  rw [show ((a1.toNat : Nat) : Int) = a1 by omega] at this
  exact this
 ·
  cases h
def slices_Reverse_string_string.l0 : Nat → List ByteArray → Int → Int → Option (List ByteArray)
 | 0, _, _, _ => none
 | k + 1, x0, x2, x3 => if x2 < x3 then (if 0 ≤ x3 then (if x3 < (x0.length : Int) then (if 0 ≤ x2 then (if x2 < (x0.length : Int) then (slices_Reverse_string_string.l0 k ((x0.set (x2 : Int).toNat (rdOf ByteArray.empty x0 x3)).set (x3 : Int).toNat (rdOf ByteArray.empty x0 x2)) (wrap64 (x2 + 1)) (wrap64 (x3 - 1))) else (none)) else (none)) else (none)) else (none)) else (some x0)
def slices_Reverse_string_string.f (k : Nat) (l0 : List ByteArray) : Option (List ByteArray) := slices_Reverse_string_string.l0 k l0 0 (wrap64 ((l0.length : Int) - 1))
theorem slices_Reverse_string_string.mono_l : ∀ k, (∀ y0 y1 y2, LeO (slices_Reverse_string_string.l0 k y0 y1 y2) (slices_Reverse_string_string.l0 (k + 1) y0 y1 y2))
 | 0 => fun _ _ _ r h => by simp [slices_Reverse_string_string.l0] at h
 | k + 1 => by
  have ih0 := slices_Reverse_string_string.mono_l k
  ·
   intro y0 y1 y2
   unfold slices_Reverse_string_string.l0
   repeat' first
   | (with_reducible exact ih0 _ _ _)
   | (with_reducible exact LeO.refl _)
   | (with_reducible exact LeO.none _)
   | (with_reducible refine LeO.ite ?_ ?_)
   | (with_reducible refine LeO.bind ?_ (fun _ => ?_))
   | exact ih0 _ _ _
   | exact LeO.none _
   | refine LeO.ite ?_ ?_
   | refine LeO.bind ?_ (fun _ => ?_)
theorem slices_Reverse_string_string.mono : ∀ a0 k, LeO (slices_Reverse_string_string.f k a0) (slices_Reverse_string_string.f (k + 1) a0) := by
 intro a0 k
 have ih0 := slices_Reverse_string_string.mono_l k
 unfold slices_Reverse_string_string.f
 repeat' first
   | (with_reducible exact ih0 _ _ _)
   | (with_reducible exact LeO.refl _)
   | (with_reducible exact LeO.none _)
   | (with_reducible refine LeO.ite ?_ ?_)
   | (with_reducible refine LeO.bind ?_ (fun _ => ?_))
   | exact ih0 _ _ _
   | exact LeO.none _
   | refine LeO.ite ?_ ?_
   | refine LeO.bind ?_ (fun _ => ?_)
def slices_Reverse_string_string.T3 : Bool × List (List Nat × List Nat) := (true, [([], []), ([], []), ([], []), ([], []), ([], []), ([], []), ([4, 5], [4, 5]), ([6], [6]), ([], []), ([], []), ([8, 9], [8, 9]), ([10], [10]), ([0, 1, 0, 1, 4, 5, 6, 7, 11], [0, 1]), ([12, 7, 0, 1, 4, 5, 6, 7, 11], [7, 12]), ([2, 3, 0, 1, 2, 3, 4, 5, 6, 7, 8, 9, 10, 11, 12, 13], [2, 3]), ([14, 11, 13, 0, 1, 2, 3, 4, 5, 6, 7, 8, 9, 10, 11, 12, 13], [11, 14])])
def slices_Reverse_string_string.B3 : List Nat := [0, 0, 0, 0, 0, 0, 48, 112, 0, 0, 768, 1792, 4083, 8179, 16383, 32767]
theorem slices_Reverse_string_string.tab3 : rtab .any (opsOf Tryd.f49 3) = slices_Reverse_string_string.T3 := by kernel_rfl
theorem slices_Reverse_string_string.bits3 : waitsOk slices_Reverse_string_string.T3.2 slices_Reverse_string_string.B3 = true := by kernel_rfl
set_option maxHeartbeats 8000000 in
set_option maxRecDepth 100000 in
theorem slices_Reverse_string_string.calls (k : Nat) (P0_ : Nat → Prop) (u9000_ : Value) (l0 : List ByteArray) (r : List ByteArray) (w0 w : World) (hB : Below w0.heap.size w0 w) (ho0 : Kd.R Kd.string 9 w w0.heap.size P0_ u9000_ l0) (h : slices_Reverse_string_string.f k l0 = some r) :
  Calls Tryd.prog 49 #[u9000_] w fun e w' => e = .returned (.tuple #[]) ∧ Kd.R Kd.string 9 w' w0.heap.size (fun k_ => (P0_ k_ ∨ w.heap.size ≤ k_)) u9000_ r ∧ Below w0.heap.size w0 w' ∧ Kept w w' (fun k_ => P0_ k_) := by
 have HO0 := Aside0.mk (show Kd.R Kd.string 9 w w0.heap.size (fun k_ => (P0_ k_ ∨ w.heap.size ≤ k_)) u9000_ l0 from Kd.R_mono ho0 (fun k_ hk => (.inl hk)))
 have HK := Aside0.mk (Kept.refl w (fun k_ => P0_ k_))
 have HW0 := Aside0.mk hB.size
 have HB := Aside0.mk hB
 clear hB
 have H : (slices_Reverse_string_string.l0 k l0 0 (wrap64 ((l0.length : Int) - 1))) = some r := h
 clear h
 have H' := Aside0.mk H
 clear H
 obtain ⟨Ao2, co2, eo2⟩ := Kd.R_slice HO0.out
 subst eo2
 go_enter Tryd.func49, Tryd.ntmps49
 go_wp2
 go_loopg [2, 3] k (fun kq v2 v3 w' => ∃ (x0_1 : List ByteArray) (x2_1 : Int) (x3_1 : Int), v2 = .int .i64 x2_1 ∧ v3 = .int .i64 x3_1 ∧ Aside0 (slices_Reverse_string_string.l0 kq x0_1 x2_1 x3_1 = some r) ∧ Aside0 (kq ≤ k) ∧ Aside0 (Kd.R Kd.string 9 w' w0.heap.size (fun k_ => (P0_ k_ ∨ w.heap.size ≤ k_)) (.slice Ao2 l0.length co2) x0_1) ∧ Aside0 (Kept w w' (fun k_ => P0_ k_)) ∧ Aside0 (Below w0.heap.size w0 w'))
 case atStart => exact ⟨(l0), (0), (wrap64 ((l0.length : Int) - 1)), (by first | rfl | (simp; done) | (simp [*]; done) | (simp <;> omega)), (by first | rfl | (simp; done) | (simp [*]; done) | (simp <;> omega)), H', ⟨Nat.le_refl _⟩, ⟨by (with_reducible repeat (first | apply Kd.R_alloc | apply Kd.R_drewN | apply Kd.R_drew)); exact HO0.out⟩, ⟨by repeat (first | (with_reducible first | exact HK.out | apply Kept.alloc | apply Kept.drewN | apply Kept.drew) | exact HK.out)⟩, ⟨by repeat (first | (with_reducible first | exact HB.out | apply below_alloc | apply pw_below_drewN | apply below_drew1) | exact HB.out)⟩⟩
 case round =>
  clear H'
  try clear p2
  obtain ⟨x0_1, x2_1, x3_1, rfl, rfl, HA, HK1, HO_0, HK, HB⟩ := hrel
  have hl0_1 := (Kd.R_reads' HO_0.out).1
  rw [hl0_1] at HO_0
  (try simp only [hl0_1])
  cases gk with
  | zero => exact absurd HA.out (by simp [slices_Reverse_string_string.l0])
  | succ k1 =>
   have H := HA.out
   clear HA
   simp only [slices_Reverse_string_string.l0] at H
   by_cases c3 : x2_1 < x3_1
   ·
    rw [if_pos c3] at H
    have c3b0 : decide (x2_1 < x3_1) = true := decide_eq_true c3
    clear c3
    by_cases c4 : 0 ≤ x3_1
    ·
     rw [if_pos c4] at H
     have c4b0 : decide (0 ≤ x3_1) = true := decide_eq_true c4
     clear c4
     by_cases c5 : x3_1 < (x0_1.length : Int)
     ·
      rw [if_pos c5] at H
      have c5b0 : decide (x3_1 < (x0_1.length : Int)) = true := decide_eq_true c5
      (try simp only [hl0_1] at c5b0)
      clear c5
      by_cases c6 : 0 ≤ x2_1
      ·
       rw [if_pos c6] at H
       have c6b0 : decide (0 ≤ x2_1) = true := decide_eq_true c6
       clear c6
       by_cases c7 : x2_1 < (x0_1.length : Int)
       ·
        rw [if_pos c7] at H
        have c7b0 : decide (x2_1 < (x0_1.length : Int)) = true := decide_eq_true c7
        (try simp only [hl0_1] at c7b0)
        clear c7
        obtain ⟨y158, hy158⟩ : ∃ y_ : List ByteArray, y_ = (x0_1.set (x2_1 : Int).toNat (rdOf ByteArray.empty x0_1 x3_1)) := ⟨_, rfl⟩
        replace H : (slices_Reverse_string_string.l0 k1 (y158.set (x3_1 : Int).toNat (rdOf ByteArray.empty x0_1 x2_1)) (wrap64 (x2_1 + 1)) (wrap64 (x3_1 - 1))) = some r := by first | (rw [hy158]; with_reducible exact H) | (have H2_ := (Option.bind_some _ _).symm.trans H; rw [hy158]; with_reducible exact H2_) | (have H2_ := (Option.bind_some _ _).symm.trans H; with_reducible exact H2_) | with_reducible exact H | (rw [hy158]; exact H) | exact H
        have Ny158 := Aside0.mk hy158
        clear hy158
        obtain ⟨y159, hy159⟩ : ∃ y_ : List ByteArray, y_ = (y158.set (x3_1 : Int).toNat (rdOf ByteArray.empty x0_1 x2_1)) := ⟨_, rfl⟩
        replace H : (slices_Reverse_string_string.l0 k1 y159 (wrap64 (x2_1 + 1)) (wrap64 (x3_1 - 1))) = some r := by first | (rw [hy159]; with_reducible exact H) | (have H2_ := (Option.bind_some _ _).symm.trans H; rw [hy159]; with_reducible exact H2_) | (have H2_ := (Option.bind_some _ _).symm.trans H; with_reducible exact H2_) | with_reducible exact H | (rw [hy159]; exact H) | exact H
        have Ny159 := Aside0.mk hy159
        clear hy159
        have H' := Aside0.mk H
        clear H
        try go_wp2
        have n0_ := Aside0.mk (Kd.R_drew HO_0.out)
        have n1_ := Aside0.mk (Kept.drew HK.out)
        have n2_ := Aside0.mk (below_drew1 HB.out)
        clear HO_0
        clear HK
        clear HB
        have HO_0 := n0_
        have HK := n1_
        have HB := n2_
        clear n0_ n1_ n2_
        have p156 : 0 ≤ (x3_1 : Int) := of_decide_eq_true (by assumption)
        have q156 : x3_1 < (x0_1.length : Int) := of_decide_eq_true (by assumption)
        obtain ⟨ad156, e156, hx156_0⟩ := Kd.at_string (Kd.R_reads' HO_0.out).2.2 x3_1 p156 q156
        cases e156
        replace p156 := eq_true p156
        replace q156 := eq_true q156
        have p157 : 0 ≤ (x2_1 : Int) := of_decide_eq_true (by assumption)
        have q157 : x2_1 < (x0_1.length : Int) := of_decide_eq_true (by assumption)
        obtain ⟨ad157, e157, hx157_0⟩ := Kd.at_string (Kd.R_reads' HO_0.out).2.2 x2_1 p157 q157
        obtain rfl : ad156 = ad157 := (by injection e157)
        replace p157 := eq_true p157
        replace q157 := eq_true q157
        have p8 : 0 ≤ (x2_1 : Int) := of_decide_eq_true (by assumption)
        have q8 : (x2_1 : Int) < ((x0_1.length : Int) : Int) := of_decide_eq_true (by assumption)
        obtain ⟨go8, co8, eo8, gb8, gl8, cl8, HG8⟩ := Kd.R_form HO_0.out (by omega)
        (first | cases eo8 | (injection eo8 with ea_ en_ ec_; (first | subst ea_ | (injection ea_ with ea_; subst ea_)); subst ec_; clear en_))
        have GB8 := Aside0.mk gb8
        have GG8 := Aside0.mk HG8
        clear gb8 gl8 HG8
        have HMgo8 := Aside0.mk (show (P0_ go8 ∨ w.heap.size ≤ go8) from (HO_0.out.1 _ rfl))
        (first | simp only [add_plain] at hx156_0 | skip)
        (first | simp only [add_plain] at hx157_0 | skip)
        obtain ⟨hx8_0, hf8_0⟩ := Kd.R_celln (⟨#[]⟩ : ByteArray) HO_0.out (x2_1 : Int) p8 q8
        replace p8 := eq_true p8
        replace q8 := eq_true q8
        have HP11 := Kd.R_putn HO_0.out (x2_1 : Int) (rdOf ByteArray.empty x0_1 x3_1)
        rw [← Ny158.out] at HP11
        have HQ11 := Aside0.mk HP11
        clear HP11
        have p9 : 0 ≤ (x3_1 : Int) := of_decide_eq_true (by assumption)
        have q9 : (x3_1 : Int) < ((x0_1.length : Int) : Int) := of_decide_eq_true (by assumption)
        obtain ⟨hx9_0, hf9_0⟩ := Kd.R_celln (⟨#[]⟩ : ByteArray) HQ11.out (x3_1 : Int) p9 q9
        replace p9 := eq_true p9
        replace q9 := eq_true q9
        have HP12 := Kd.R_putn HQ11.out (x3_1 : Int) (rdOf ByteArray.empty x0_1 x2_1)
        rw [← Ny159.out] at HP12
        have HQ12 := Aside0.mk HP12
        clear HP12
        refine start_ (n := 16) (S := fun w' => w'.cell? ⟨go8, (x3_1).toNat, none⟩ = some (.string (rdOf ByteArray.empty x0_1 x3_1)) ∧ w'.cell? ⟨go8, (x2_1).toNat, none⟩ = some (.string (rdOf ByteArray.empty x0_1 x2_1))) (ds := [13, 15]) #[false, false, false, false, false, false, false, false, false, false, false, false, false, false, false, false] (by kernel_rfl) rfl rfl ⟨hx156_0, hx157_0⟩ (fun hHeld => ?_); refine with_tabW slices_Reverse_string_string.tab3 slices_Reverse_string_string.bits3 (fun HT_ HW_ => ?_)
        generalize wr.drew = w10 at HO_0 HK HB GG8 HQ11 HQ12 hf8_0 hf9_0 hx156_0 hx157_0 hx8_0 hx9_0 hHeld ⊢
        refine pure_ (i := 0) (N := some 14) (v := ?_) (a' := ?_) #[true, false, false, false, false, false, false, false, false, false, false, false, false, false, false, false] rfl rfl (any_of HT_.out (by kernel_rfl)) (fun _ _ _ h => h) (Or.inl ⟨by rfl, ?_⟩) ?_ ?_
        rotate_left
        ·
         intro w'
         go_simp
         with_reducible rfl
        rotate_left
        ·
         simp only [Act.put, List.setIfInBounds_toArray, List.set_cons_zero, List.set_cons_succ, i64_w, i32_w]
         rfl
        refine pure_ (i := 1) (N := some 15) (v := ?_) (a' := ?_) #[true, true, false, false, false, false, false, false, false, false, false, false, false, false, false, false] rfl rfl (any_of HT_.out (by kernel_rfl)) (fun _ _ _ h => h) (Or.inl ⟨by rfl, ?_⟩) ?_ ?_
        rotate_left
        ·
         intro w'
         go_simp
         with_reducible rfl
        rotate_left
        ·
         simp only [Act.put, List.setIfInBounds_toArray, List.set_cons_zero, List.set_cons_succ, i64_w, i32_w]
         rfl
        refine pure_ (i := 2) (N := some 16) (v := ?_) (a' := ?_) #[true, true, true, false, false, false, false, false, false, false, false, false, false, false, false, false] rfl rfl (any_of HT_.out (by kernel_rfl)) (fun _ _ _ h => h) (Or.inl ⟨by rfl, ?_⟩) ?_ ?_
        rotate_left
        ·
         intro w'
         go_simp
         with_reducible rfl
        rotate_left
        ·
         simp only [Act.put, List.setIfInBounds_toArray, List.set_cons_zero, List.set_cons_succ, i64_w, i32_w]
         rfl
        refine pure_ (i := 3) (N := some 17) (v := ?_) (a' := ?_) #[true, true, true, true, false, false, false, false, false, false, false, false, false, false, false, false] rfl rfl (any_of HT_.out (by kernel_rfl)) (fun _ _ _ h => h) (Or.inl ⟨by rfl, ?_⟩) ?_ ?_
        rotate_left
        ·
         intro w'
         go_simp
         with_reducible rfl
        rotate_left
        ·
         simp only [Act.put, List.setIfInBounds_toArray, List.set_cons_zero, List.set_cons_succ, i64_w, i32_w]
         rfl
        refine pure_ (i := 4) (N := some 18) (v := ?_) (a' := ?_) #[true, true, true, true, true, false, false, false, false, false, false, false, false, false, false, false] rfl rfl (any_of HT_.out (by kernel_rfl)) (fun _ _ _ h => h) (Or.inl ⟨by rfl, ?_⟩) ?_ ?_
        rotate_left
        ·
         intro w'
         go_simp
         with_reducible rfl
        rotate_left
        ·
         simp only [Act.put, List.setIfInBounds_toArray, List.set_cons_zero, List.set_cons_succ, i64_w, i32_w]
         rfl
        refine pure_ (i := 5) (N := some 19) (v := ?_) (a' := ?_) #[true, true, true, true, true, true, false, false, false, false, false, false, false, false, false, false] rfl rfl (any_of HT_.out (by kernel_rfl)) (fun _ _ _ h => h) (Or.inl ⟨by rfl, ?_⟩) ?_ ?_
        rotate_left
        ·
         intro w'
         go_simp
         with_reducible rfl
        rotate_left
        ·
         simp only [Act.put, List.setIfInBounds_toArray, List.set_cons_zero, List.set_cons_succ, i64_w, i32_w]
         rfl
        refine pure_ (i := 6) (N := some 20) (v := ?_) (a' := ?_) #[true, true, true, true, true, true, true, false, false, false, false, false, false, false, false, false] rfl rfl (any_of HT_.out (by kernel_rfl)) (fun _ _ _ h => h) (Or.inl ⟨by rfl, ?_⟩) ?_ ?_
        rotate_left
        ·
         intro w'
         go_simp
         with_reducible rfl
        rotate_left
        ·
         simp only [Act.put, List.setIfInBounds_toArray, List.set_cons_zero, List.set_cons_succ, i64_w, i32_w]
         rfl
        refine pure_ (i := 8) (N := some 22) (v := ?_) (a' := ?_) #[true, true, true, true, true, true, true, false, true, false, false, false, false, false, false, false] rfl rfl (any_of HT_.out (by kernel_rfl)) (fun _ _ _ h => h) (Or.inl ⟨by rfl, ?_⟩) ?_ ?_
        rotate_left
        ·
         intro w'
         go_simp
         with_reducible rfl
        rotate_left
        ·
         simp only [Act.put, List.setIfInBounds_toArray, List.set_cons_zero, List.set_cons_succ, i64_w, i32_w]
         rfl
        refine pure_ (i := 9) (N := some 23) (v := ?_) (a' := ?_) #[true, true, true, true, true, true, true, false, true, true, false, false, false, false, false, false] rfl rfl (any_of HT_.out (by kernel_rfl)) (fun _ _ _ h => h) (Or.inl ⟨by rfl, ?_⟩) ?_ ?_
        rotate_left
        ·
         intro w'
         go_simp
         with_reducible rfl
        rotate_left
        ·
         simp only [Act.put, List.setIfInBounds_toArray, List.set_cons_zero, List.set_cons_succ, i64_w, i32_w]
         rfl
        refine pure_ (i := 10) (N := some 24) (v := ?_) (a' := ?_) #[true, true, true, true, true, true, true, false, true, true, true, false, false, false, false, false] rfl rfl (any_of HT_.out (by kernel_rfl)) (fun _ _ _ h => h) (Or.inl ⟨by rfl, ?_⟩) ?_ ?_
        rotate_left
        ·
         intro w'
         go_simp
         with_reducible rfl
        rotate_left
        ·
         simp only [Act.put, List.setIfInBounds_toArray, List.set_cons_zero, List.set_cons_succ, i64_w, i32_w]
         rfl
        refine take_ (i := 7) (N := some 21) (v := ?_) (a' := ?_) #[true, true, true, true, true, true, true, true, true, true, true, false, false, false, false, false] rfl rfl (take_ofW HT_.out HW_.out (by kernel_rfl)) (fun _ _ _ h => h) (Or.inl ⟨by rfl, ?_⟩) hHeld ?_ ?_
        rotate_left
        ·
         rintro w' ⟨s0, s1⟩
         go_simp
         with_reducible rfl
        rotate_left
        ·
         simp only [Act.put, List.setIfInBounds_toArray, List.set_cons_zero, List.set_cons_succ, i64_w, i32_w]
         rfl
        refine take_ (i := 11) (N := some 25) (v := ?_) (a' := ?_) #[true, true, true, true, true, true, true, true, true, true, true, true, false, false, false, false] rfl rfl (take_ofW HT_.out HW_.out (by kernel_rfl)) (fun _ _ _ h => h) (Or.inl ⟨by rfl, ?_⟩) hHeld ?_ ?_
        rotate_left
        ·
         rintro w' ⟨s0, s1⟩
         go_simp
         with_reducible rfl
        rotate_left
        ·
         simp only [Act.put, List.setIfInBounds_toArray, List.set_cons_zero, List.set_cons_succ, i64_w, i32_w]
         rfl
        refine pure_ (i := 12) (N := some 26) (v := ?_) (a' := ?_) #[true, true, true, true, true, true, true, true, true, true, true, true, true, false, false, false] rfl rfl (any_of HT_.out (by kernel_rfl)) (fun _ _ _ h => h) (Or.inl ⟨by rfl, ?_⟩) ?_ ?_
        rotate_left
        ·
         intro w'
         go_simp
         with_reducible rfl
        rotate_left
        ·
         simp only [Act.put, List.setIfInBounds_toArray, List.set_cons_zero, List.set_cons_succ, i64_w, i32_w]
         rfl
        refine last_ (i := 13) (N := none) #[true, true, true, true, true, true, true, true, true, true, true, true, true, true, false, false] rfl rfl (one_of HT_.out (by kernel_rfl)) (by decide) (fun K hK => ?_)
        refine skip_ (w1 := ?_) (by rfl) rfl ?_ ?_
        rotate_left
        ·
         go_simp
         rfl
        refine hK.out _ _ ?_
        clear hK K
        refine pure_ (i := 14) (N := some 27) (v := ?_) (a' := ?_) #[true, true, true, true, true, true, true, true, true, true, true, true, true, true, true, false] rfl rfl (any_of HT_.out (by kernel_rfl)) (fun _ _ _ h => h) (Or.inl ⟨by rfl, ?_⟩) ?_ ?_
        rotate_left
        ·
         intro w'
         go_simp
         with_reducible rfl
        rotate_left
        ·
         simp only [Act.put, List.setIfInBounds_toArray, List.set_cons_zero, List.set_cons_succ, i64_w, i32_w]
         rfl
        refine last_ (i := 15) (N := none) #[true, true, true, true, true, true, true, true, true, true, true, true, true, true, true, true] rfl rfl (one_of HT_.out (by kernel_rfl)) (by decide) (fun K hK => ?_)
        refine skip_ (w1 := ?_) (by rfl) rfl ?_ ?_
        rotate_left
        ·
         go_simp
         rfl
        refine hK.out _ _ ?_
        clear hK K
        refine done_ (done_of HT_.out (by kernel_rfl)) ?_
        try go_wp2
        (try simp only [← hl0_1])
        go_roundg k1
        case measure => have := HK1.out; omega
        case rel => exact ⟨(y159), (wrap64 (x2_1 + 1)), (wrap64 (x3_1 - 1)), (by first | rfl | (simp; done) | (simp [*]; done) | (simp <;> omega)), (by first | rfl | (simp; done) | (simp [*]; done) | (simp <;> omega)), H', ⟨by have := HK1.out; omega⟩, ⟨by (try simp only [hl0_1]); (with_reducible repeat (first | apply Kd.R_alloc | apply Kd.R_drewN | apply Kd.R_drew)); exact HQ12.out⟩, ⟨by repeat (first | (with_reducible first | exact HK.out | apply Kept.alloc | apply Kept.drewN | apply Kept.drew | refine Kept.setCell ?_ HMgo8.out _ | refine Kept.setCell ?_ HMgo8.out _) | exact HK.out)⟩, ⟨by repeat (first | (with_reducible first | exact HB.out | apply below_alloc | apply pw_below_drewN | apply below_drew1 | refine below_set ?_ GB8.out | refine below_set ?_ GB8.out) | exact HB.out)⟩⟩
       ·
        rw [if_neg c7] at H
        exact absurd H (by simp)
      ·
       rw [if_neg c6] at H
       exact absurd H (by simp)
     ·
      rw [if_neg c5] at H
      exact absurd H (by simp)
    ·
     rw [if_neg c4] at H
     exact absurd H (by simp)
   ·
    rw [if_neg c3] at H
    have c3b0 : decide (x2_1 < x3_1) = false := decide_eq_false c3
    clear c3
    obtain rfl := Option.some.inj H
    go_wp2
    first | go_end0 | ((try simp only [Exit.inBlock, Exit.then]); refine bodyPost_ret (results_none rfl _ _ _) rfl ?_)
    exact ⟨by first | rfl | (simp [errW_none, errW_some] <;> rfl) | (simp [*, errW_none, errW_some] <;> rfl), (by first | exact (by (with_reducible repeat (first | apply Kd.R_alloc | apply Kd.R_drewN | apply Kd.R_drew)); exact HO_0.out) | (simp only [hl0_1]; exact (by (with_reducible repeat (first | apply Kd.R_alloc | apply Kd.R_drewN | apply Kd.R_drew)); exact HO_0.out))), by repeat (first | (with_reducible first | exact HB.out | apply below_alloc | apply pw_below_drewN | apply below_drew1) | exact HB.out), by repeat (first | (with_reducible first | exact HK.out | apply Kept.alloc | apply Kept.drewN | apply Kept.drew) | exact HK.out)⟩
def strings_Join.f (l0 : List ByteArray) (a1 : ByteArray) : Option ByteArray := if l0.length ≤ 140737488355328 ∧ (Lib.join (l0.map (·.data.toList)) a1.data.toList).length ≤ 140737488355328 then some ⟨(Lib.join (l0.map (·.data.toList)) a1.data.toList).toArray⟩ else none
theorem strings_Join.calls (A0 : Option Addr) (c0 : Nat) (l0 : List ByteArray) (a1 : ByteArray) (r : ByteArray) (w : World) (hr0 : Kd.C Kd.string w A0 l0.length l0) (hc0 : l0.length ≤ c0) (h : strings_Join.f l0 a1 = some r) :
  Calls Tryd.prog 50 #[.slice A0 l0.length c0, .string a1] w fun e w' => e = .returned (.string r) ∧ Below w.heap.size w w' := by
 unfold strings_Join.f at h
 split at h
 ·
  rename_i hb
  simp only [Option.some.injEq] at h
  subst h
  rcases Nat.eq_zero_or_pos l0.length with h0 | h0
  ·
   obtain rfl : l0 = [] := List.length_eq_zero_iff.1 h0
   refine (Tryd.strings_Join_none A0 c0 a1 w).mono ?_
   rintro e w' ⟨rfl, rfl⟩
   exact ⟨rfl, Below.refl _ _⟩
  ·
   obtain ⟨ad, rfl, hc⟩ := (Kd.reads_of_C (d := ByteArray.empty) hr0).2.2 h0
   obtain ⟨bk, o, pt⟩ := ad
   cases pt with
   | some q =>
    exfalso
    have := hc 0 h0
    simp only [Addr.add, World.cell?] at this
    simp at this
    split at this <;> simp at this
   | none =>
    refine Tryd.strings_Join bk o c0 l0 a1 w (fun j x hx => ?_) ?_ hb.1 hc0 hb.2
    ·
     have hj : j < l0.length := (List.getElem?_eq_some_iff.1 hx).1
     have := hc j hj
     rw [List.getD_eq_getElem?_getD, hx, Addr.add_lit] at this
     simpa using this
    ·
     exact World.block_lt_of_cell? w _ (hc 0 h0)
 ·
  cases h
def integer_Int_Text.l0 : Nat → List ByteArray → List Int → Bool → List Int → Option (ByteArray)
 | 0, _, _, _, _ => none
 | k + 1, x3, x4, x161000, x161001 => if (x4.length : Int) > 0 then ((integer_short.f k x4 1000000000).bind fun bt161 => ((strconv_Itoa_47.f (wrap64 (bt161.2))).bind fun t165 => (if (bt161.1.length : Int) > 0 then ((strings_Repeat.f (⟨#[48]⟩ : ByteArray) (wrap64 (9 - (t165.size : Int)))).bind fun t166 => (if t166.size + t165.size ≤ 9223372036854775807 then (if x3.length < 8796093022208 then (integer_Int_Text.l0 k (x3 ++ [t166 ++ t165]) bt161.1 x161000 x161001) else (none)) else (none))) else (if x3.length < 8796093022208 then (integer_Int_Text.l0 k (x3 ++ [t165]) bt161.1 x161000 x161001) else (none))))) else ((slices_Reverse_string_string.f k x3).bind fun t173 => ((strings_Join.f t173 (⟨#[]⟩ : ByteArray)).bind fun t174 => (if x161000 = true then (if 1 + t174.size ≤ 9223372036854775807 then (some ((⟨#[45]⟩ : ByteArray) ++ t174)) else (none)) else (some t174))))
def integer_Int_Text.f (k : Nat) (a0_0 : Bool) (l0_1 : List Int) : Option (ByteArray) := if (l0_1.length : Int) = 0 then (some (⟨#[48]⟩ : ByteArray)) else (integer_Int_Text.l0 k ([] : List ByteArray) l0_1 a0_0 l0_1)
theorem integer_Int_Text.mono_l : ∀ k, (∀ y0 y1 y2 y3, LeO (integer_Int_Text.l0 k y0 y1 y2 y3) (integer_Int_Text.l0 (k + 1) y0 y1 y2 y3))
 | 0 => fun _ _ _ _ r h => by simp [integer_Int_Text.l0] at h
 | k + 1 => by
  have ih0 := integer_Int_Text.mono_l k
  ·
   intro y0 y1 y2 y3
   unfold integer_Int_Text.l0
   repeat' first
   | (with_reducible exact ih0 _ _ _ _)
   | (with_reducible exact integer_short.mono _ _ _)
   | (with_reducible exact slices_Reverse_string_string.mono _ _)
   | (with_reducible exact LeO.refl _)
   | (with_reducible exact LeO.none _)
   | (with_reducible refine LeO.ite ?_ ?_)
   | (with_reducible refine LeO.bind ?_ (fun _ => ?_))
   | exact ih0 _ _ _ _
   | exact integer_short.mono _ _ _
   | exact slices_Reverse_string_string.mono _ _
   | exact LeO.none _
   | refine LeO.ite ?_ ?_
   | refine LeO.bind ?_ (fun _ => ?_)
theorem integer_Int_Text.mono : ∀ a0 a1 k, LeO (integer_Int_Text.f k a0 a1) (integer_Int_Text.f (k + 1) a0 a1) := by
 intro a0 a1 k
 have ih0 := integer_Int_Text.mono_l k
 unfold integer_Int_Text.f
 repeat' first
   | (with_reducible exact ih0 _ _ _ _)
   | (with_reducible exact integer_short.mono _ _ _)
   | (with_reducible exact slices_Reverse_string_string.mono _ _)
   | (with_reducible exact LeO.refl _)
   | (with_reducible exact LeO.none _)
   | (with_reducible refine LeO.ite ?_ ?_)
   | (with_reducible refine LeO.bind ?_ (fun _ => ?_))
   | exact ih0 _ _ _ _
   | exact integer_short.mono _ _ _
   | exact slices_Reverse_string_string.mono _ _
   | exact LeO.none _
   | refine LeO.ite ?_ ?_
   | refine LeO.bind ?_ (fun _ => ?_)
set_option maxHeartbeats 8000000 in
set_option maxRecDepth 100000 in
theorem integer_Int_Text.calls (k : Nat) (a0_0 : Bool) (P0_1_ : Nat → Prop) (A0_1 : Option Addr) (c0_1 : Nat) (l0_1 : List Int) (r : ByteArray) (w : World) (hs0_1 : Kd.V (Kd.int .u32) 60 w w.heap.size (fun k_ => P0_1_ k_) (.slice A0_1 l0_1.length c0_1) l0_1) (hG : G w) (h : integer_Int_Text.f k a0_0 l0_1 = some r) :
  Calls Tryd.prog 17 #[.agg #[.bool a0_0, .slice A0_1 l0_1.length c0_1]] w fun e w' => e = .returned (.string r) ∧ Below w.heap.size w w' := by
 have hu25 := Tryd.underlying25
 have HO0_1 := Aside0.mk (show Kd.V (Kd.int .u32) 60 w w.heap.size (fun k_ => (P0_1_ k_ ∨ w.heap.size ≤ k_)) (.slice A0_1 l0_1.length c0_1) l0_1 from Kd.V_mono hs0_1 (fun k_ hk => .inl hk))
 have HB := Aside0.mk (Below.refl w.heap.size w)
 have HG := Aside0.mk hG
 clear hG
 have H : (if (l0_1.length : Int) = 0 then (some (⟨#[48]⟩ : ByteArray)) else (integer_Int_Text.l0 k ([] : List ByteArray) l0_1 a0_0 l0_1)) = some r := h
 clear h
 by_cases c2 : (l0_1.length : Int) = 0
 ·
  rw [if_pos c2] at H
  have c2b0 : ((l0_1.length : Int) == 0) = true := beq_iff_eq.mpr c2
  have c2b1 : ((l0_1.length : Int) != 0) = false := bne_eq_false_iff_eq.mpr c2
  clear c2
  obtain rfl := Option.some.inj H
  go_enter Tryd.func17, Tryd.ntmps17
  go_wp2_with (first | ((with_reducible refine gate_dst (N := 1) rfl ?_); refine box_event ?hg (N := 1) ?hd (cs := #[.bool a0_0, .slice A0_1 l0_1.length c0_1]) (t := 25) ?hr ?_; (case hd => rfl); (case hg => rfl); (case hr => first | (go_simp; done) | (go_simp; rfl)); intro gb160 hg w3 hbox hb; have n0_ := Aside0.mk (Kd.V_below (Kd.V_elderB (by (with_reducible repeat (first | apply Kd.V_alloc | apply Kd.V_drewN | apply Kd.V_drew)); exact HO0_1.out) gb160 (Nat.le_of_eq hg.symm)) hb); have n1_ := Aside0.mk (below_step (by repeat (first | (with_reducible first | exact HB.out | apply below_alloc | apply pw_below_drewN | apply below_drew1) | exact HB.out)) hb); have n2_ := Aside0.mk (hbox); have n3_ := Aside0.mk ((by rw [hg]; exact (below_size (by repeat (first | (with_reducible first | exact HB.out | apply below_alloc | apply pw_below_drewN | apply below_drew1) | exact HB.out))) : w.heap.size ≤ gb160)); have n4_ := Aside0.mk ((by rw [hg]; exact (below_size (by repeat (first | (with_reducible first | exact HB.out | apply below_alloc | apply pw_below_drewN | apply below_drew1) | exact HB.out))) : w.heap.size ≤ gb160)); clear HO0_1; clear HB; have HO0_1 := n0_; have HB := n1_; have BK160 := n2_; have GW160 := n3_; have GE160 := n4_; clear n0_ n1_ n2_ n3_ n4_; clear hb hbox hg; have hcz4_0 : w3.cell? ⟨gb160, 0, none⟩ = some (.bool a0_0) := (blk_cell BK160.out 0).trans rfl; have hcz4_1 : w3.cell? ⟨gb160, 1, none⟩ = some (.slice A0_1 l0_1.length c0_1) := (blk_cell BK160.out 1).trans rfl; have hfz4_0 := blk_frozen BK160.out 0; have hfz4_1 := blk_frozen BK160.out 1))
  go_ret
  exact ⟨by first | rfl | (simp [errW_none, errW_some] <;> rfl) | (simp [*, errW_none, errW_some] <;> rfl), by repeat (first | (with_reducible first | exact HB.out | apply below_alloc | apply pw_below_drewN | apply below_drew1 | refine below_set ?_ GE160.out) | exact HB.out)⟩
 ·
  rw [if_neg c2] at H
  have c2b0 : ((l0_1.length : Int) == 0) = false := beq_eq_false_iff_ne.mpr c2
  have c2b1 : ((l0_1.length : Int) != 0) = true := bne_iff_ne.mpr c2
  have c2b2 : ¬ (l0_1 = []) := fun h_ => c2 (by rw [h_]; rfl)
  have H' := Aside0.mk H
  clear H
  go_enter Tryd.func17, Tryd.ntmps17
  go_wp2_with (first | ((with_reducible refine gate_dst (N := 1) rfl ?_); refine box_event ?hg (N := 1) ?hd (cs := #[.bool a0_0, .slice A0_1 l0_1.length c0_1]) (t := 25) ?hr ?_; (case hd => rfl); (case hg => rfl); (case hr => first | (go_simp; done) | (go_simp; rfl)); intro gb160 hg w5 hbox hb; have n0_ := Aside0.mk (Kd.V_below (Kd.V_elderB (by (with_reducible repeat (first | apply Kd.V_alloc | apply Kd.V_drewN | apply Kd.V_drew)); exact HO0_1.out) gb160 (Nat.le_of_eq hg.symm)) hb); have n1_ := Aside0.mk (below_step (by repeat (first | (with_reducible first | exact HB.out | apply below_alloc | apply pw_below_drewN | apply below_drew1) | exact HB.out)) hb); have n2_ := Aside0.mk (hbox); have n3_ := Aside0.mk ((by rw [hg]; exact (below_size (by repeat (first | (with_reducible first | exact HB.out | apply below_alloc | apply pw_below_drewN | apply below_drew1) | exact HB.out))) : w.heap.size ≤ gb160)); have n4_ := Aside0.mk ((by rw [hg]; exact (below_size (by repeat (first | (with_reducible first | exact HB.out | apply below_alloc | apply pw_below_drewN | apply below_drew1) | exact HB.out))) : w.heap.size ≤ gb160)); clear HO0_1; clear HB; have HO0_1 := n0_; have HB := n1_; have BK160 := n2_; have GW160 := n3_; have GE160 := n4_; clear n0_ n1_ n2_ n3_ n4_; clear hb hbox hg; have hcz6_0 : w5.cell? ⟨gb160, 0, none⟩ = some (.bool a0_0) := (blk_cell BK160.out 0).trans rfl; have hcz6_1 : w5.cell? ⟨gb160, 1, none⟩ = some (.slice A0_1 l0_1.length c0_1) := (blk_cell BK160.out 1).trans rfl; have hfz6_0 := blk_frozen BK160.out 0; have hfz6_1 := blk_frozen BK160.out 1))
  go_loopg [3, 4] k (fun kq v3 v4 w' => ∃ (x3_1 : List ByteArray) (x4_1 : List Int), Aside0 (integer_Int_Text.l0 kq x3_1 x4_1 a0_0 l0_1 = some r) ∧ Aside0 (kq ≤ k) ∧ Aside0 (Kd.R Kd.string 9 w' w.heap.size (fun k_ => (w.heap.size ≤ k_)) v3 x3_1) ∧ Aside0 (Kd.V (Kd.int .u32) 60 w' w.heap.size (fun k_ => (P0_1_ k_ ∨ w.heap.size ≤ k_) ∧ some k_ ≠ (v3 : Value).ownBlock ∧ k_ ≠ gb160) v4 x4_1) ∧ Aside0 (Kd.V (Kd.int .u32) 60 w' w.heap.size (fun k_ => (P0_1_ k_ ∨ w.heap.size ≤ k_) ∧ some k_ ≠ (v3 : Value).ownBlock ∧ k_ ≠ gb160) (.slice A0_1 l0_1.length c0_1) l0_1) ∧ Aside0 (w'.heap[gb160]? = some (.cells #[.bool a0_0, (.slice A0_1 l0_1.length c0_1)] 25 (0, 0))) ∧ Aside0 (Below w.heap.size w w'))
  case atStart => exact ⟨(([] : List ByteArray)), (l0_1), H', ⟨Nat.le_refl _⟩, ⟨by first | exact Kd.R_nil _ _ _ _ _ | exact Kd.N_nil _ _ _ _ _ | exact Kd.V_nil _ _ _ _ _ | exact Kd.Q_nil _ _ _ _ _ | exact Kd.S_nil _ _ _ _ _⟩, ⟨by (with_reducible repeat (first | apply Kd.V_alloc | apply Kd.V_drewN | apply Kd.V_drew)); exact Kd.V_mono HO0_1.out (fun _ hk => ⟨hk.1, ⟨(by simp [Value.ownBlock]), hk.2⟩⟩)⟩, ⟨by (with_reducible repeat (first | apply Kd.V_alloc | apply Kd.V_drewN | apply Kd.V_drew)); exact Kd.V_mono HO0_1.out (fun _ hk => ⟨hk.1, ⟨(by simp [Value.ownBlock]), hk.2⟩⟩)⟩, ⟨by (with_reducible repeat (first | refine blk_drewN ?_ _ | refine blk_drew ?_ | refine blk_alloc ?_ _)); exact BK160.out⟩, ⟨by repeat (first | (with_reducible first | exact HB.out | apply below_alloc | apply pw_below_drewN | apply below_drew1 | refine below_set ?_ GE160.out) | exact HB.out)⟩⟩
  case round =>
   clear H'
   try clear c1
   try clear c2
   try clear c2b0
   try clear c2b1
   try clear c2b2
   try clear p2
   try clear hcz4_0
   try clear hcz4_1
   try clear hcz6_0
   try clear hcz6_1
   try clear hfz4_0
   try clear hfz4_1
   try clear hfz6_0
   try clear hfz6_1
   obtain ⟨x3_1, x4_1, HA, HK1, HO_3, HO_4, HO_161001, BK160, HB⟩ := hrel
   cases gk with
   | zero => exact absurd HA.out (by simp [integer_Int_Text.l0])
   | succ k1 =>
    have H := HA.out
    clear HA
    simp only [integer_Int_Text.l0] at H
    by_cases c7 : (x4_1.length : Int) > 0
    ·
     rw [if_pos c7] at H
     have c7b0 : decide (0 < (x4_1.length : Int)) = true := decide_eq_true c7
     have c7b1 : decide (0 < x4_1.length) = true := decide_eq_true (by omega)
     clear c7
     replace H := Option.bind_eq_some_iff.mp H
     obtain ⟨⟨t161, t164⟩, A80, H⟩ := H
     replace H : ((strconv_Itoa_47.f (wrap64 (t164))).bind fun t165 => (if (t161.length : Int) > 0 then ((strings_Repeat.f (⟨#[48]⟩ : ByteArray) (wrap64 (9 - (t165.size : Int)))).bind fun t166 => (if t166.size + t165.size ≤ 9223372036854775807 then (if x3_1.length < 8796093022208 then (integer_Int_Text.l0 k1 (x3_1 ++ [t166 ++ t165]) t161 a0_0 l0_1) else (none)) else (none))) else (if x3_1.length < 8796093022208 then (integer_Int_Text.l0 k1 (x3_1 ++ [t165]) t161 a0_0 l0_1) else (none)))) = some r := H
     have A8 := Aside0.mk A80
     clear A80
     replace H := Option.bind_eq_some_iff.mp H
     obtain ⟨t165, A90, H⟩ := H
     replace H : (if (t161.length : Int) > 0 then ((strings_Repeat.f (⟨#[48]⟩ : ByteArray) (wrap64 (9 - (t165.size : Int)))).bind fun t166 => (if t166.size + t165.size ≤ 9223372036854775807 then (if x3_1.length < 8796093022208 then (integer_Int_Text.l0 k1 (x3_1 ++ [t166 ++ t165]) t161 a0_0 l0_1) else (none)) else (none))) else (if x3_1.length < 8796093022208 then (integer_Int_Text.l0 k1 (x3_1 ++ [t165]) t161 a0_0 l0_1) else (none))) = some r := H
     have A9 := Aside0.mk A90
     clear A90
     by_cases c10 : (t161.length : Int) > 0
     ·
      rw [if_pos c10] at H
      have c10b0 : decide (0 < (t161.length : Int)) = true := decide_eq_true c10
      have c10b1 : decide (0 < t161.length) = true := decide_eq_true (by omega)
      clear c10
      replace H := Option.bind_eq_some_iff.mp H
      obtain ⟨t166, A110, H⟩ := H
      replace H : (if t166.size + t165.size ≤ 9223372036854775807 then (if x3_1.length < 8796093022208 then (integer_Int_Text.l0 k1 (x3_1 ++ [t166 ++ t165]) t161 a0_0 l0_1) else (none)) else (none)) = some r := H
      have A11 := Aside0.mk A110
      clear A110
      by_cases c12 : t166.size + t165.size ≤ 9223372036854775807
      ·
       rw [if_pos c12] at H
       have c12b0 := eq_true c12
       have c12b1 : decide (t166.size + t165.size ≤ 9223372036854775807) = true := decide_eq_true c12
       try have c12b2 : (9223372036854775807 < t166.size + t165.size) = False := eq_false (Nat.not_lt.2 c12)
       by_cases c13 : x3_1.length < 8796093022208
       ·
        rw [if_pos c13] at H
        have LMc13 := Aside0.mk c13
        clear c13
        obtain ⟨y167, hy167⟩ : ∃ y_ : List ByteArray, y_ = (x3_1 ++ [t166 ++ t165]) := ⟨_, rfl⟩
        replace H : (integer_Int_Text.l0 k1 y167 t161 a0_0 l0_1) = some r := by first | (rw [hy167]; with_reducible exact H) | (have H2_ := (Option.bind_some _ _).symm.trans H; rw [hy167]; with_reducible exact H2_) | (have H2_ := (Option.bind_some _ _).symm.trans H; with_reducible exact H2_) | with_reducible exact H | (rw [hy167]; exact H) | exact H
        have Ny167 := Aside0.mk hy167
        clear hy167
        have H' := Aside0.mk H
        clear H
        obtain ⟨Ao14, co14, eo14⟩ := Kd.V_slice HO_4.out
        subst eo14
        go_wp2_with (first | ((with_reducible refine gate_callee (f := 46) rfl ?_); refine goesL_ (some 20) rfl rfl Tryd.func46 (by kernel_rfl) rfl #[.slice Ao14 x4_1.length co14, .int .u32 1000000000] rfl (by (try simp only [List.map_toArray, List.map_cons, List.map_nil]); first | done | rfl | (simp only [List.length_drop, List.length_take]; rfl)) ?_; (with_reducible refine (integer_short.calls k1 _ _ x4_1 1000000000 t161 t164 _ ?side1 ?side2 A8.out).mono ?_); (case side1 => repeat (first | exact (Kd.V_reads' HO_4.out).2.2 | (with_reducible refine Kd.C_alloc ?_ _) | (with_reducible refine Kd.C_drewN ?_ _) | (with_reducible refine Kd.C_drew ?_))); (case side2 => exact (Kd.V_reads' HO_4.out).2.1); rintro e w15 ⟨v162, rfl, ho0, hb⟩; refine ⟨_, rfl, ?_⟩; have n0_ := Aside0.mk (Kd.R_below (by (with_reducible repeat (first | apply Kd.R_alloc | apply Kd.R_drewN | apply Kd.R_drew)); exact HO_3.out) hb); have n1_ := Aside0.mk (Kd.V_below (by (with_reducible repeat (first | apply Kd.V_alloc | apply Kd.V_drewN | apply Kd.V_drew)); exact HO_4.out) hb); have n2_ := Aside0.mk (Kd.V_below (by (with_reducible repeat (first | apply Kd.V_alloc | apply Kd.V_drewN | apply Kd.V_drew)); exact HO_161001.out) hb); have n3_ := Aside0.mk (Kd.V_lower (Kd.V_mono (ok' := fun k_ => (P0_1_ k_ ∨ w.heap.size ≤ k_) ∧ some k_ ≠ (u3 : Value).ownBlock ∧ k_ ≠ gb160) ho0 (fun k_ hk_ => ⟨(.inr (Nat.le_trans (below_size (by repeat (first | (with_reducible first | exact HB.out | apply below_alloc | apply pw_below_drewN | apply below_drew1 | refine below_set ?_ GE160.out) | exact HB.out))) hk_)), (Kd.fresh' (Kd.R_lt (by (with_reducible repeat (first | apply Kd.R_alloc | apply Kd.R_drewN | apply Kd.R_drew)); exact HO_3.out)) k_ hk_), (Kd.freshB (g := gb160) (o := .cells #[.bool a0_0, .slice A0_1 l0_1.length c0_1] 25 (0, 0)) (by (with_reducible repeat (first | refine blk_drewN ?_ _ | refine blk_drew ?_ | refine blk_alloc ?_ _)); exact BK160.out) k_ hk_)⟩)) (below_size (by repeat (first | (with_reducible first | exact HB.out | apply below_alloc | apply pw_below_drewN | apply below_drew1 | refine below_set ?_ GE160.out) | exact HB.out)))); have n4_ := Aside0.mk (blk_below (g := gb160) (o := .cells #[.bool a0_0, .slice A0_1 l0_1.length c0_1] 25 (0, 0)) (by (with_reducible repeat (first | refine blk_drewN ?_ _ | refine blk_drew ?_ | refine blk_alloc ?_ _)); exact BK160.out) hb); have n5_ := Aside0.mk (below_step (by repeat (first | (with_reducible first | exact HB.out | apply below_alloc | apply pw_below_drewN | apply below_drew1 | refine below_set ?_ GE160.out) | exact HB.out)) hb); clear HO_3; clear HO_4; clear HO_161001; clear BK160; clear HB; have HO_3 := n0_; have HO_4 := n1_; have HO_161001 := n2_; have HO163 := n3_; have BK160 := n4_; have HB := n5_; clear n0_ n1_ n2_ n3_ n4_ n5_; (try clear hb); (try clear hb2); (try clear hk); (try clear hi); (try clear ho0)) | ((with_reducible refine gate_callee (f := 47) rfl ?_); refine goesL_ (some 25) rfl rfl Tryd.func47 (by kernel_rfl) rfl #[.int .i64 (wrap64 (t164))] rfl (by (try simp only [List.map_toArray, List.map_cons, List.map_nil]); first | done | rfl | (simp only [List.length_drop, List.length_take]; rfl) | (rw [show wrap64 (t164) = (t164) from wrap64_of_ _ (by omega) (by omega)]; rfl)) ?_; (with_reducible refine (strconv_Itoa_47.calls (wrap64 (t164)) t165 _ ?side1 A9.out).mono ?_); (case side1 => exact G_below HG.out (by repeat (first | (with_reducible first | exact HB.out | apply below_alloc | apply pw_below_drewN | apply below_drew1 | refine below_set ?_ GE160.out) | exact HB.out))); rintro e w16 ⟨rfl, hb⟩; refine ⟨_, rfl, ?_⟩; have n0_ := Aside0.mk (Kd.R_below (by (with_reducible repeat (first | apply Kd.R_alloc | apply Kd.R_drewN | apply Kd.R_drew)); exact HO_3.out) hb); have n1_ := Aside0.mk (Kd.V_below (by (with_reducible repeat (first | apply Kd.V_alloc | apply Kd.V_drewN | apply Kd.V_drew)); exact HO_4.out) hb); have n2_ := Aside0.mk (Kd.V_below (by (with_reducible repeat (first | apply Kd.V_alloc | apply Kd.V_drewN | apply Kd.V_drew)); exact HO_161001.out) hb); have n3_ := Aside0.mk (Kd.V_below (by (with_reducible repeat (first | apply Kd.V_alloc | apply Kd.V_drewN | apply Kd.V_drew)); exact HO163.out) hb); have n4_ := Aside0.mk (blk_below (g := gb160) (o := .cells #[.bool a0_0, .slice A0_1 l0_1.length c0_1] 25 (0, 0)) (by (with_reducible repeat (first | refine blk_drewN ?_ _ | refine blk_drew ?_ | refine blk_alloc ?_ _)); exact BK160.out) hb); have n5_ := Aside0.mk (below_step (by repeat (first | (with_reducible first | exact HB.out | apply below_alloc | apply pw_below_drewN | apply below_drew1 | refine below_set ?_ GE160.out) | exact HB.out)) hb); clear HO_3; clear HO_4; clear HO_161001; clear HO163; clear BK160; clear HB; have HO_3 := n0_; have HO_4 := n1_; have HO_161001 := n2_; have HO163 := n3_; have BK160 := n4_; have HB := n5_; clear n0_ n1_ n2_ n3_ n4_ n5_; (try clear hb); (try clear hb2); (try clear hk); (try clear hi); obtain ⟨Ao17, co17, eo17⟩ := Kd.V_slice HO163.out; subst eo17) | ((with_reducible refine gate_callee (f := 48) rfl ?_); refine goesL_ (some 32) rfl rfl Tryd.func48 (by kernel_rfl) rfl #[.string (⟨#[48]⟩ : ByteArray), .int .i64 (wrap64 (9 - (t165.size : Int)))] rfl (by (try simp only [List.map_toArray, List.map_cons, List.map_nil]); first | done | rfl | (simp only [List.length_drop, List.length_take]; rfl) | (rw [show wrap64 (9 - (t165.size : Int)) = (9 - (t165.size : Int)) from wrap64_of_ _ (by omega) (by omega)]; rfl)) ?_; (with_reducible refine (strings_Repeat.calls (⟨#[48]⟩ : ByteArray) (wrap64 (9 - (t165.size : Int))) t166 _ A11.out).mono ?_); rintro e w18 ⟨rfl, hb⟩; refine ⟨_, rfl, ?_⟩; have n0_ := Aside0.mk (Kd.R_below (by (with_reducible repeat (first | apply Kd.R_alloc | apply Kd.R_drewN | apply Kd.R_drew)); exact HO_3.out) hb); have n1_ := Aside0.mk (Kd.V_below (by (with_reducible repeat (first | apply Kd.V_alloc | apply Kd.V_drewN | apply Kd.V_drew)); exact HO_4.out) hb); have n2_ := Aside0.mk (Kd.V_below (by (with_reducible repeat (first | apply Kd.V_alloc | apply Kd.V_drewN | apply Kd.V_drew)); exact HO_161001.out) hb); have n3_ := Aside0.mk (Kd.V_below (by (with_reducible repeat (first | apply Kd.V_alloc | apply Kd.V_drewN | apply Kd.V_drew)); exact HO163.out) hb); have n4_ := Aside0.mk (blk_below (g := gb160) (o := .cells #[.bool a0_0, .slice A0_1 l0_1.length c0_1] 25 (0, 0)) (by (with_reducible repeat (first | refine blk_drewN ?_ _ | refine blk_drew ?_ | refine blk_alloc ?_ _)); exact BK160.out) hb); have n5_ := Aside0.mk (below_step (by repeat (first | (with_reducible first | exact HB.out | apply below_alloc | apply pw_below_drewN | apply below_drew1 | refine below_set ?_ GE160.out) | exact HB.out)) hb); clear HO_3; clear HO_4; clear HO_161001; clear HO163; clear BK160; clear HB; have HO_3 := n0_; have HO_4 := n1_; have HO_161001 := n2_; have HO163 := n3_; have BK160 := n4_; have HB := n5_; clear n0_ n1_ n2_ n3_ n4_ n5_; (try clear hb); (try clear hb2); (try clear hk); (try clear hi)) | ((with_reducible refine gate_builtin (b := .append) (xs := #[.tmp 35, .tmp 37]) rfl ?_); at_builtin; refine Kd.R_append Kd.string (w0 := w) w.heap.size rfl (.tmp 35) (.tmp 37) 62 9 (.string ⟨#[]⟩) 16 rfl Tryd.underlying62 info9 rfl (by decide) (by omega) u3 x3_1 (t166 ++ t165) [.string (t166 ++ t165)] (fun k_ => (w.heap.size ≤ k_)) (fun _ => False) rfl rfl ?aP (fun _ hk => hk.elim) ?aF ?aO ?aB ?aS ?aL ?_; (case aP => exact rfl); (case aB => exact (by repeat (first | (with_reducible first | exact HB.out | apply below_alloc | apply pw_below_drewN | apply below_drew1 | refine below_set ?_ GE160.out) | exact HB.out))); (case aF => exact (fun k_ hk => (Nat.le_trans (below_size (by repeat (first | (with_reducible first | exact HB.out | apply below_alloc | apply pw_below_drewN | apply below_drew1 | refine below_set ?_ GE160.out) | exact HB.out))) hk))); (case aO => exact (by (with_reducible repeat (first | apply Kd.R_alloc | apply Kd.R_drewN | apply Kd.R_drew)); exact HO_3.out)); (case aS => exact (below_size (by repeat (first | (with_reducible first | exact HB.out | apply below_alloc | apply pw_below_drewN | apply below_drew1 | refine below_set ?_ GE160.out) | exact HB.out)))); (case aL => have := LMc13.out; omega); intro v168 w19 ho hb hg hat; rw [← Ny167.out] at ho; have n0_ := Aside0.mk (Kd.V_afterv (ok := (fun k_ => (P0_1_ k_ ∨ w.heap.size ≤ k_) ∧ k_ ≠ gb160)) (by (with_reducible repeat (first | apply Kd.V_alloc | apply Kd.V_drewN | apply Kd.V_drew)); exact Kd.V_mono HO_4.out (fun _ hk => ⟨⟨hk.1, hk.2.2⟩, hk.2.1⟩)) hg hat); have n1_ := Aside0.mk (Kd.V_afterv (ok := (fun k_ => (P0_1_ k_ ∨ w.heap.size ≤ k_) ∧ k_ ≠ gb160)) (by (with_reducible repeat (first | apply Kd.V_alloc | apply Kd.V_drewN | apply Kd.V_drew)); exact Kd.V_mono HO_161001.out (fun _ hk => ⟨⟨hk.1, hk.2.2⟩, hk.2.1⟩)) hg hat); have n2_ := Aside0.mk (blk_grown (g := gb160) (o := .cells #[.bool a0_0, .slice A0_1 l0_1.length c0_1] 25 (0, 0)) (by (with_reducible repeat (first | refine blk_drewN ?_ _ | refine blk_drew ?_ | refine blk_alloc ?_ _)); exact BK160.out) hg (Kd.R_ne HO_3.out BK160.out (by decide))); have n3_ := Aside0.mk (Kd.V_afterv (ok := (fun k_ => (P0_1_ k_ ∨ w.heap.size ≤ k_) ∧ k_ ≠ gb160)) (by (with_reducible repeat (first | apply Kd.V_alloc | apply Kd.V_drewN | apply Kd.V_drew)); exact Kd.V_mono HO163.out (fun _ hk => ⟨⟨hk.1, hk.2.2⟩, hk.2.1⟩)) hg hat); have n4_ := Aside0.mk (hb); have n5_ := Aside0.mk (ho); clear HO_4; clear HO_161001; clear BK160; clear HO163; clear HB; clear HO_3; have HO_4 := n0_; have HO_161001 := n1_; have BK160 := n2_; have HO163 := n3_; have HB := n4_; have HO169 := n5_; clear n0_ n1_ n2_ n3_ n4_ n5_; clear ho hb hg hat))
        go_roundg k1
        case measure => have := HK1.out; omega
        case rel => exact ⟨(y167), (t161), H', ⟨by have := HK1.out; omega⟩, ⟨by (with_reducible repeat (first | apply Kd.R_alloc | apply Kd.R_drewN | apply Kd.R_drew)); exact HO169.out⟩, ⟨by (with_reducible repeat (first | apply Kd.V_alloc | apply Kd.V_drewN | apply Kd.V_drew)); exact Kd.V_mono HO163.out (fun _ hk => ⟨hk.1.1, ⟨hk.2, hk.1.2⟩⟩)⟩, ⟨by (with_reducible repeat (first | apply Kd.V_alloc | apply Kd.V_drewN | apply Kd.V_drew)); exact Kd.V_mono HO_161001.out (fun _ hk => ⟨hk.1.1, ⟨hk.2, hk.1.2⟩⟩)⟩, ⟨by (with_reducible repeat (first | refine blk_drewN ?_ _ | refine blk_drew ?_ | refine blk_alloc ?_ _)); exact BK160.out⟩, ⟨by repeat (first | (with_reducible first | exact HB.out | apply below_alloc | apply pw_below_drewN | apply below_drew1 | refine below_set ?_ GE160.out) | exact HB.out)⟩⟩
       ·
        rw [if_neg c13] at H
        exact absurd H (by simp)
      ·
       rw [if_neg c12] at H
       exact absurd H (by simp)
     ·
      rw [if_neg c10] at H
      have c10b0 : decide (0 < (t161.length : Int)) = false := decide_eq_false c10
      have c10b1 : decide (0 < t161.length) = false := decide_eq_false (by omega)
      clear c10
      by_cases c20 : x3_1.length < 8796093022208
      ·
       rw [if_pos c20] at H
       have LMc20 := Aside0.mk c20
       clear c20
       obtain ⟨y170, hy170⟩ : ∃ y_ : List ByteArray, y_ = (x3_1 ++ [t165]) := ⟨_, rfl⟩
       replace H : (integer_Int_Text.l0 k1 y170 t161 a0_0 l0_1) = some r := by first | (rw [hy170]; with_reducible exact H) | (have H2_ := (Option.bind_some _ _).symm.trans H; rw [hy170]; with_reducible exact H2_) | (have H2_ := (Option.bind_some _ _).symm.trans H; with_reducible exact H2_) | with_reducible exact H | (rw [hy170]; exact H) | exact H
       have Ny170 := Aside0.mk hy170
       clear hy170
       have H' := Aside0.mk H
       clear H
       obtain ⟨Ao21, co21, eo21⟩ := Kd.V_slice HO_4.out
       subst eo21
       go_wp2_with (first | ((with_reducible refine gate_callee (f := 46) rfl ?_); refine goesL_ (some 20) rfl rfl Tryd.func46 (by kernel_rfl) rfl #[.slice Ao21 x4_1.length co21, .int .u32 1000000000] rfl (by (try simp only [List.map_toArray, List.map_cons, List.map_nil]); first | done | rfl | (simp only [List.length_drop, List.length_take]; rfl)) ?_; (with_reducible refine (integer_short.calls k1 _ _ x4_1 1000000000 t161 t164 _ ?side1 ?side2 A8.out).mono ?_); (case side1 => repeat (first | exact (Kd.V_reads' HO_4.out).2.2 | (with_reducible refine Kd.C_alloc ?_ _) | (with_reducible refine Kd.C_drewN ?_ _) | (with_reducible refine Kd.C_drew ?_))); (case side2 => exact (Kd.V_reads' HO_4.out).2.1); rintro e w22 ⟨v162, rfl, ho0, hb⟩; refine ⟨_, rfl, ?_⟩; have n0_ := Aside0.mk (Kd.R_below (by (with_reducible repeat (first | apply Kd.R_alloc | apply Kd.R_drewN | apply Kd.R_drew)); exact HO_3.out) hb); have n1_ := Aside0.mk (Kd.V_below (by (with_reducible repeat (first | apply Kd.V_alloc | apply Kd.V_drewN | apply Kd.V_drew)); exact HO_4.out) hb); have n2_ := Aside0.mk (Kd.V_below (by (with_reducible repeat (first | apply Kd.V_alloc | apply Kd.V_drewN | apply Kd.V_drew)); exact HO_161001.out) hb); have n3_ := Aside0.mk (Kd.V_lower (Kd.V_mono (ok' := fun k_ => (P0_1_ k_ ∨ w.heap.size ≤ k_) ∧ some k_ ≠ (u3 : Value).ownBlock ∧ k_ ≠ gb160) ho0 (fun k_ hk_ => ⟨(.inr (Nat.le_trans (below_size (by repeat (first | (with_reducible first | exact HB.out | apply below_alloc | apply pw_below_drewN | apply below_drew1 | refine below_set ?_ GE160.out) | exact HB.out))) hk_)), (Kd.fresh' (Kd.R_lt (by (with_reducible repeat (first | apply Kd.R_alloc | apply Kd.R_drewN | apply Kd.R_drew)); exact HO_3.out)) k_ hk_), (Kd.freshB (g := gb160) (o := .cells #[.bool a0_0, .slice A0_1 l0_1.length c0_1] 25 (0, 0)) (by (with_reducible repeat (first | refine blk_drewN ?_ _ | refine blk_drew ?_ | refine blk_alloc ?_ _)); exact BK160.out) k_ hk_)⟩)) (below_size (by repeat (first | (with_reducible first | exact HB.out | apply below_alloc | apply pw_below_drewN | apply below_drew1 | refine below_set ?_ GE160.out) | exact HB.out)))); have n4_ := Aside0.mk (blk_below (g := gb160) (o := .cells #[.bool a0_0, .slice A0_1 l0_1.length c0_1] 25 (0, 0)) (by (with_reducible repeat (first | refine blk_drewN ?_ _ | refine blk_drew ?_ | refine blk_alloc ?_ _)); exact BK160.out) hb); have n5_ := Aside0.mk (below_step (by repeat (first | (with_reducible first | exact HB.out | apply below_alloc | apply pw_below_drewN | apply below_drew1 | refine below_set ?_ GE160.out) | exact HB.out)) hb); clear HO_3; clear HO_4; clear HO_161001; clear BK160; clear HB; have HO_3 := n0_; have HO_4 := n1_; have HO_161001 := n2_; have HO163 := n3_; have BK160 := n4_; have HB := n5_; clear n0_ n1_ n2_ n3_ n4_ n5_; (try clear hb); (try clear hb2); (try clear hk); (try clear hi); (try clear ho0)) | ((with_reducible refine gate_callee (f := 47) rfl ?_); refine goesL_ (some 25) rfl rfl Tryd.func47 (by kernel_rfl) rfl #[.int .i64 (wrap64 (t164))] rfl (by (try simp only [List.map_toArray, List.map_cons, List.map_nil]); first | done | rfl | (simp only [List.length_drop, List.length_take]; rfl) | (rw [show wrap64 (t164) = (t164) from wrap64_of_ _ (by omega) (by omega)]; rfl)) ?_; (with_reducible refine (strconv_Itoa_47.calls (wrap64 (t164)) t165 _ ?side1 A9.out).mono ?_); (case side1 => exact G_below HG.out (by repeat (first | (with_reducible first | exact HB.out | apply below_alloc | apply pw_below_drewN | apply below_drew1 | refine below_set ?_ GE160.out) | exact HB.out))); rintro e w23 ⟨rfl, hb⟩; refine ⟨_, rfl, ?_⟩; have n0_ := Aside0.mk (Kd.R_below (by (with_reducible repeat (first | apply Kd.R_alloc | apply Kd.R_drewN | apply Kd.R_drew)); exact HO_3.out) hb); have n1_ := Aside0.mk (Kd.V_below (by (with_reducible repeat (first | apply Kd.V_alloc | apply Kd.V_drewN | apply Kd.V_drew)); exact HO_4.out) hb); have n2_ := Aside0.mk (Kd.V_below (by (with_reducible repeat (first | apply Kd.V_alloc | apply Kd.V_drewN | apply Kd.V_drew)); exact HO_161001.out) hb); have n3_ := Aside0.mk (Kd.V_below (by (with_reducible repeat (first | apply Kd.V_alloc | apply Kd.V_drewN | apply Kd.V_drew)); exact HO163.out) hb); have n4_ := Aside0.mk (blk_below (g := gb160) (o := .cells #[.bool a0_0, .slice A0_1 l0_1.length c0_1] 25 (0, 0)) (by (with_reducible repeat (first | refine blk_drewN ?_ _ | refine blk_drew ?_ | refine blk_alloc ?_ _)); exact BK160.out) hb); have n5_ := Aside0.mk (below_step (by repeat (first | (with_reducible first | exact HB.out | apply below_alloc | apply pw_below_drewN | apply below_drew1 | refine below_set ?_ GE160.out) | exact HB.out)) hb); clear HO_3; clear HO_4; clear HO_161001; clear HO163; clear BK160; clear HB; have HO_3 := n0_; have HO_4 := n1_; have HO_161001 := n2_; have HO163 := n3_; have BK160 := n4_; have HB := n5_; clear n0_ n1_ n2_ n3_ n4_ n5_; (try clear hb); (try clear hb2); (try clear hk); (try clear hi); obtain ⟨Ao24, co24, eo24⟩ := Kd.V_slice HO163.out; subst eo24) | ((with_reducible refine gate_builtin (b := .append) (xs := #[.tmp 35, .tmp 37]) rfl ?_); at_builtin; refine Kd.R_append Kd.string (w0 := w) w.heap.size rfl (.tmp 35) (.tmp 37) 62 9 (.string ⟨#[]⟩) 16 rfl Tryd.underlying62 info9 rfl (by decide) (by omega) u3 x3_1 t165 [.string t165] (fun k_ => (w.heap.size ≤ k_)) (fun _ => False) rfl rfl ?aP (fun _ hk => hk.elim) ?aF ?aO ?aB ?aS ?aL ?_; (case aP => exact rfl); (case aB => exact (by repeat (first | (with_reducible first | exact HB.out | apply below_alloc | apply pw_below_drewN | apply below_drew1 | refine below_set ?_ GE160.out) | exact HB.out))); (case aF => exact (fun k_ hk => (Nat.le_trans (below_size (by repeat (first | (with_reducible first | exact HB.out | apply below_alloc | apply pw_below_drewN | apply below_drew1 | refine below_set ?_ GE160.out) | exact HB.out))) hk))); (case aO => exact (by (with_reducible repeat (first | apply Kd.R_alloc | apply Kd.R_drewN | apply Kd.R_drew)); exact HO_3.out)); (case aS => exact (below_size (by repeat (first | (with_reducible first | exact HB.out | apply below_alloc | apply pw_below_drewN | apply below_drew1 | refine below_set ?_ GE160.out) | exact HB.out)))); (case aL => have := LMc20.out; omega); intro v171 w25 ho hb hg hat; rw [← Ny170.out] at ho; have n0_ := Aside0.mk (Kd.V_afterv (ok := (fun k_ => (P0_1_ k_ ∨ w.heap.size ≤ k_) ∧ k_ ≠ gb160)) (by (with_reducible repeat (first | apply Kd.V_alloc | apply Kd.V_drewN | apply Kd.V_drew)); exact Kd.V_mono HO_4.out (fun _ hk => ⟨⟨hk.1, hk.2.2⟩, hk.2.1⟩)) hg hat); have n1_ := Aside0.mk (Kd.V_afterv (ok := (fun k_ => (P0_1_ k_ ∨ w.heap.size ≤ k_) ∧ k_ ≠ gb160)) (by (with_reducible repeat (first | apply Kd.V_alloc | apply Kd.V_drewN | apply Kd.V_drew)); exact Kd.V_mono HO_161001.out (fun _ hk => ⟨⟨hk.1, hk.2.2⟩, hk.2.1⟩)) hg hat); have n2_ := Aside0.mk (blk_grown (g := gb160) (o := .cells #[.bool a0_0, .slice A0_1 l0_1.length c0_1] 25 (0, 0)) (by (with_reducible repeat (first | refine blk_drewN ?_ _ | refine blk_drew ?_ | refine blk_alloc ?_ _)); exact BK160.out) hg (Kd.R_ne HO_3.out BK160.out (by decide))); have n3_ := Aside0.mk (Kd.V_afterv (ok := (fun k_ => (P0_1_ k_ ∨ w.heap.size ≤ k_) ∧ k_ ≠ gb160)) (by (with_reducible repeat (first | apply Kd.V_alloc | apply Kd.V_drewN | apply Kd.V_drew)); exact Kd.V_mono HO163.out (fun _ hk => ⟨⟨hk.1, hk.2.2⟩, hk.2.1⟩)) hg hat); have n4_ := Aside0.mk (hb); have n5_ := Aside0.mk (ho); clear HO_4; clear HO_161001; clear BK160; clear HO163; clear HB; clear HO_3; have HO_4 := n0_; have HO_161001 := n1_; have BK160 := n2_; have HO163 := n3_; have HB := n4_; have HO172 := n5_; clear n0_ n1_ n2_ n3_ n4_ n5_; clear ho hb hg hat))
       go_roundg k1
       case measure => have := HK1.out; omega
       case rel => exact ⟨(y170), (t161), H', ⟨by have := HK1.out; omega⟩, ⟨by (with_reducible repeat (first | apply Kd.R_alloc | apply Kd.R_drewN | apply Kd.R_drew)); exact HO172.out⟩, ⟨by (with_reducible repeat (first | apply Kd.V_alloc | apply Kd.V_drewN | apply Kd.V_drew)); exact Kd.V_mono HO163.out (fun _ hk => ⟨hk.1.1, ⟨hk.2, hk.1.2⟩⟩)⟩, ⟨by (with_reducible repeat (first | apply Kd.V_alloc | apply Kd.V_drewN | apply Kd.V_drew)); exact Kd.V_mono HO_161001.out (fun _ hk => ⟨hk.1.1, ⟨hk.2, hk.1.2⟩⟩)⟩, ⟨by (with_reducible repeat (first | refine blk_drewN ?_ _ | refine blk_drew ?_ | refine blk_alloc ?_ _)); exact BK160.out⟩, ⟨by repeat (first | (with_reducible first | exact HB.out | apply below_alloc | apply pw_below_drewN | apply below_drew1 | refine below_set ?_ GE160.out) | exact HB.out)⟩⟩
      ·
       rw [if_neg c20] at H
       exact absurd H (by simp)
    ·
     rw [if_neg c7] at H
     have c7b0 : decide (0 < (x4_1.length : Int)) = false := decide_eq_false c7
     have c7b1 : decide (0 < x4_1.length) = false := decide_eq_false (by omega)
     clear c7
     replace H := Option.bind_eq_some_iff.mp H
     obtain ⟨t173, A260, H⟩ := H
     replace H : ((strings_Join.f t173 (⟨#[]⟩ : ByteArray)).bind fun t174 => (if a0_0 = true then (if 1 + t174.size ≤ 9223372036854775807 then (some ((⟨#[45]⟩ : ByteArray) ++ t174)) else (none)) else (some t174))) = some r := H
     have A26 := Aside0.mk A260
     clear A260
     replace H := Option.bind_eq_some_iff.mp H
     obtain ⟨t174, A270, H⟩ := H
     replace H : (if a0_0 = true then (if 1 + t174.size ≤ 9223372036854775807 then (some ((⟨#[45]⟩ : ByteArray) ++ t174)) else (none)) else (some t174)) = some r := H
     have A27 := Aside0.mk A270
     clear A270
     by_cases c28 : a0_0 = true
     ·
      subst c28
      have H1 : (if 1 + t174.size ≤ 9223372036854775807 then (some ((⟨#[45]⟩ : ByteArray) ++ t174)) else (none)) = some r := by rw [if_pos rfl] at H; exact H
      clear H
      have H := H1
      clear H1
      by_cases c29 : 1 + t174.size ≤ 9223372036854775807
      ·
       rw [if_pos c29] at H
       have c29b0 := eq_true c29
       have c29b1 : decide (1 + t174.size ≤ 9223372036854775807) = true := decide_eq_true c29
       try have c29b2 : (9223372036854775807 < 1 + t174.size) = False := eq_false (Nat.not_lt.2 c29)
       obtain rfl := Option.some.inj H
       obtain ⟨Ao30, co30, eo30⟩ := Kd.V_slice HO_4.out
       subst eo30
       obtain ⟨Ao31, co31, eo31⟩ := Kd.R_slice HO_3.out
       subst eo31
       go_wp2_with (first | ((with_reducible refine gate_callee (f := 49) rfl ?_); refine goesL_ (some 41) rfl rfl Tryd.func49 (by kernel_rfl) rfl #[.slice Ao31 x3_1.length co31] rfl (by (try simp only [List.map_toArray, List.map_cons, List.map_nil]); first | done | rfl | (simp only [List.length_drop, List.length_take]; rfl)) ?_; (with_reducible refine (slices_Reverse_string_string.calls k1 (fun k_ => some k_ = (.slice Ao31 x3_1.length co31 : Value).ownBlock) (.slice Ao31 x3_1.length co31) x3_1 t173 w _ ?side1 ?side2 A26.out).mono ?_); (case side1 => repeat (first | (with_reducible first | exact HB.out | apply below_alloc | apply pw_below_drewN | apply below_drew1 | refine below_set ?_ GE160.out) | exact HB.out)); (case side2 => exact Kd.R_tight rfl HO_3.out); rintro e w32 ⟨rfl, hy0, hb, hkp⟩; refine ⟨_, rfl, ?_⟩; have n0_ := Aside0.mk (Kd.R_reok rfl hy0 (fun k_ e_ => HO_3.out.1 k_ e_)); have n1_ := Aside0.mk (Kd.V_mono (ok' := fun k_ => (P0_1_ k_ ∨ w.heap.size ≤ k_) ∧ some k_ ≠ (.slice Ao31 x3_1.length co31 : Value).ownBlock ∧ k_ ≠ gb160) (Kd.V_keptB (HO_4.out) hkp (fun k_ hk_ hs_ => (hk_.2.1) hs_)) (fun k_ hk_ => ⟨hk_.1.1, hk_.1.2.1, hk_.1.2.2⟩)); have n2_ := Aside0.mk (Kd.V_mono (ok' := fun k_ => (P0_1_ k_ ∨ w.heap.size ≤ k_) ∧ some k_ ≠ (.slice Ao31 x3_1.length co31 : Value).ownBlock ∧ k_ ≠ gb160) (Kd.V_keptB (HO_161001.out) hkp (fun k_ hk_ hs_ => (hk_.2.1) hs_)) (fun k_ hk_ => ⟨hk_.1.1, hk_.1.2.1, hk_.1.2.2⟩)); have n3_ := Aside0.mk (blk_kept (by (with_reducible repeat (first | refine blk_drewN ?_ _ | refine blk_drew ?_ | refine blk_alloc ?_ _)); exact BK160.out) hkp (fun hs_ => (fun e_ => (Kd.R_ne HO_3.out BK160.out (by decide)) e_) hs_)); have n4_ := Aside0.mk (hb); clear HO_3; clear HO_4; clear HO_161001; clear BK160; clear HB; have HO_3 := n0_; have HO_4 := n1_; have HO_161001 := n2_; have BK160 := n3_; have HB := n4_; clear n0_ n1_ n2_ n3_ n4_; (try clear hb); (try clear hkp); (try clear hy0)) | ((with_reducible refine gate_callee (f := 50) rfl ?_); refine goesL_ (some 43) rfl rfl Tryd.func50 (by kernel_rfl) rfl #[.slice Ao31 t173.length co31, .string (⟨#[]⟩ : ByteArray)] rfl (by (try simp only [List.map_toArray, List.map_cons, List.map_nil]); first | done | (rw [show t173.length = x3_1.length from (Kd.R_reads' HO_3.out).1.symm] <;> rfl) | rfl | (simp only [List.length_drop, List.length_take]; rfl)) ?_; (with_reducible refine (strings_Join.calls _ _ t173 (⟨#[]⟩ : ByteArray) t174 _ ?side1 ?side2 A27.out).mono ?_); (case side1 => repeat (first | exact (Kd.R_reads' HO_3.out).2.2 | (with_reducible refine Kd.C_alloc ?_ _) | (with_reducible refine Kd.C_drewN ?_ _) | (with_reducible refine Kd.C_drew ?_))); (case side2 => rw [show t173.length = x3_1.length from (Kd.R_reads' HO_3.out).1.symm]; exact (Kd.R_reads' HO_3.out).2.1); rintro e w33 ⟨rfl, hb⟩; refine ⟨_, rfl, ?_⟩; have n0_ := Aside0.mk (Kd.R_below (by (with_reducible repeat (first | apply Kd.R_alloc | apply Kd.R_drewN | apply Kd.R_drew)); exact HO_3.out) hb); have n1_ := Aside0.mk (Kd.V_below (by (with_reducible repeat (first | apply Kd.V_alloc | apply Kd.V_drewN | apply Kd.V_drew)); exact HO_4.out) hb); have n2_ := Aside0.mk (Kd.V_below (by (with_reducible repeat (first | apply Kd.V_alloc | apply Kd.V_drewN | apply Kd.V_drew)); exact HO_161001.out) hb); have n3_ := Aside0.mk (blk_below (g := gb160) (o := .cells #[.bool true, .slice A0_1 l0_1.length c0_1] 25 (0, 0)) (by (with_reducible repeat (first | refine blk_drewN ?_ _ | refine blk_drew ?_ | refine blk_alloc ?_ _)); exact BK160.out) hb); have n4_ := Aside0.mk (below_step (by repeat (first | (with_reducible first | exact HB.out | apply below_alloc | apply pw_below_drewN | apply below_drew1 | refine below_set ?_ GE160.out) | exact HB.out)) hb); clear HO_3; clear HO_4; clear HO_161001; clear BK160; clear HB; have HO_3 := n0_; have HO_4 := n1_; have HO_161001 := n2_; have BK160 := n3_; have HB := n4_; clear n0_ n1_ n2_ n3_ n4_; (try clear hb); (try clear hb2); (try clear hk); (try clear hi); have hcz34_0 : w33.cell? ⟨gb160, 0, none⟩ = some (.bool true) := (blk_cell BK160.out 0).trans rfl; have hcz34_1 : w33.cell? ⟨gb160, 1, none⟩ = some (.slice A0_1 l0_1.length c0_1) := (blk_cell BK160.out 1).trans rfl; have hfz34_0 := blk_frozen BK160.out 0; have hfz34_1 := blk_frozen BK160.out 1))
       go_ret
       exact ⟨by first | rfl | (simp [errW_none, errW_some] <;> rfl) | (simp [*, errW_none, errW_some] <;> rfl), by repeat (first | (with_reducible first | exact HB.out | apply below_alloc | apply pw_below_drewN | apply below_drew1 | refine below_set ?_ GE160.out) | exact HB.out)⟩
      ·
       rw [if_neg c29] at H
       exact absurd H (by simp)
     ·
      replace c28 := Bool.eq_false_iff.mpr c28
      subst c28
      have H1 : (some t174) = some r := by rw [if_neg (show ¬ (false = true) by decide)] at H; exact H
      clear H
      have H := H1
      clear H1
      obtain rfl := Option.some.inj H
      obtain ⟨Ao35, co35, eo35⟩ := Kd.V_slice HO_4.out
      subst eo35
      obtain ⟨Ao36, co36, eo36⟩ := Kd.R_slice HO_3.out
      subst eo36
      go_wp2_with (first | ((with_reducible refine gate_callee (f := 49) rfl ?_); refine goesL_ (some 41) rfl rfl Tryd.func49 (by kernel_rfl) rfl #[.slice Ao36 x3_1.length co36] rfl (by (try simp only [List.map_toArray, List.map_cons, List.map_nil]); first | done | rfl | (simp only [List.length_drop, List.length_take]; rfl)) ?_; (with_reducible refine (slices_Reverse_string_string.calls k1 (fun k_ => some k_ = (.slice Ao36 x3_1.length co36 : Value).ownBlock) (.slice Ao36 x3_1.length co36) x3_1 t173 w _ ?side1 ?side2 A26.out).mono ?_); (case side1 => repeat (first | (with_reducible first | exact HB.out | apply below_alloc | apply pw_below_drewN | apply below_drew1 | refine below_set ?_ GE160.out) | exact HB.out)); (case side2 => exact Kd.R_tight rfl HO_3.out); rintro e w37 ⟨rfl, hy0, hb, hkp⟩; refine ⟨_, rfl, ?_⟩; have n0_ := Aside0.mk (Kd.R_reok rfl hy0 (fun k_ e_ => HO_3.out.1 k_ e_)); have n1_ := Aside0.mk (Kd.V_mono (ok' := fun k_ => (P0_1_ k_ ∨ w.heap.size ≤ k_) ∧ some k_ ≠ (.slice Ao36 x3_1.length co36 : Value).ownBlock ∧ k_ ≠ gb160) (Kd.V_keptB (HO_4.out) hkp (fun k_ hk_ hs_ => (hk_.2.1) hs_)) (fun k_ hk_ => ⟨hk_.1.1, hk_.1.2.1, hk_.1.2.2⟩)); have n2_ := Aside0.mk (Kd.V_mono (ok' := fun k_ => (P0_1_ k_ ∨ w.heap.size ≤ k_) ∧ some k_ ≠ (.slice Ao36 x3_1.length co36 : Value).ownBlock ∧ k_ ≠ gb160) (Kd.V_keptB (HO_161001.out) hkp (fun k_ hk_ hs_ => (hk_.2.1) hs_)) (fun k_ hk_ => ⟨hk_.1.1, hk_.1.2.1, hk_.1.2.2⟩)); have n3_ := Aside0.mk (blk_kept (by (with_reducible repeat (first | refine blk_drewN ?_ _ | refine blk_drew ?_ | refine blk_alloc ?_ _)); exact BK160.out) hkp (fun hs_ => (fun e_ => (Kd.R_ne HO_3.out BK160.out (by decide)) e_) hs_)); have n4_ := Aside0.mk (hb); clear HO_3; clear HO_4; clear HO_161001; clear BK160; clear HB; have HO_3 := n0_; have HO_4 := n1_; have HO_161001 := n2_; have BK160 := n3_; have HB := n4_; clear n0_ n1_ n2_ n3_ n4_; (try clear hb); (try clear hkp); (try clear hy0)) | ((with_reducible refine gate_callee (f := 50) rfl ?_); refine goesL_ (some 43) rfl rfl Tryd.func50 (by kernel_rfl) rfl #[.slice Ao36 t173.length co36, .string (⟨#[]⟩ : ByteArray)] rfl (by (try simp only [List.map_toArray, List.map_cons, List.map_nil]); first | done | (rw [show t173.length = x3_1.length from (Kd.R_reads' HO_3.out).1.symm] <;> rfl) | rfl | (simp only [List.length_drop, List.length_take]; rfl)) ?_; (with_reducible refine (strings_Join.calls _ _ t173 (⟨#[]⟩ : ByteArray) t174 _ ?side1 ?side2 A27.out).mono ?_); (case side1 => repeat (first | exact (Kd.R_reads' HO_3.out).2.2 | (with_reducible refine Kd.C_alloc ?_ _) | (with_reducible refine Kd.C_drewN ?_ _) | (with_reducible refine Kd.C_drew ?_))); (case side2 => rw [show t173.length = x3_1.length from (Kd.R_reads' HO_3.out).1.symm]; exact (Kd.R_reads' HO_3.out).2.1); rintro e w38 ⟨rfl, hb⟩; refine ⟨_, rfl, ?_⟩; have n0_ := Aside0.mk (Kd.R_below (by (with_reducible repeat (first | apply Kd.R_alloc | apply Kd.R_drewN | apply Kd.R_drew)); exact HO_3.out) hb); have n1_ := Aside0.mk (Kd.V_below (by (with_reducible repeat (first | apply Kd.V_alloc | apply Kd.V_drewN | apply Kd.V_drew)); exact HO_4.out) hb); have n2_ := Aside0.mk (Kd.V_below (by (with_reducible repeat (first | apply Kd.V_alloc | apply Kd.V_drewN | apply Kd.V_drew)); exact HO_161001.out) hb); have n3_ := Aside0.mk (blk_below (g := gb160) (o := .cells #[.bool false, .slice A0_1 l0_1.length c0_1] 25 (0, 0)) (by (with_reducible repeat (first | refine blk_drewN ?_ _ | refine blk_drew ?_ | refine blk_alloc ?_ _)); exact BK160.out) hb); have n4_ := Aside0.mk (below_step (by repeat (first | (with_reducible first | exact HB.out | apply below_alloc | apply pw_below_drewN | apply below_drew1 | refine below_set ?_ GE160.out) | exact HB.out)) hb); clear HO_3; clear HO_4; clear HO_161001; clear BK160; clear HB; have HO_3 := n0_; have HO_4 := n1_; have HO_161001 := n2_; have BK160 := n3_; have HB := n4_; clear n0_ n1_ n2_ n3_ n4_; (try clear hb); (try clear hb2); (try clear hk); (try clear hi); have hcz39_0 : w38.cell? ⟨gb160, 0, none⟩ = some (.bool false) := (blk_cell BK160.out 0).trans rfl; have hcz39_1 : w38.cell? ⟨gb160, 1, none⟩ = some (.slice A0_1 l0_1.length c0_1) := (blk_cell BK160.out 1).trans rfl; have hfz39_0 := blk_frozen BK160.out 0; have hfz39_1 := blk_frozen BK160.out 1))
      go_ret
      exact ⟨by first | rfl | (simp [errW_none, errW_some] <;> rfl) | (simp [*, errW_none, errW_some] <;> rfl), by repeat (first | (with_reducible first | exact HB.out | apply below_alloc | apply pw_below_drewN | apply below_drew1 | refine below_set ?_ GE160.out) | exact HB.out)⟩
def integer_signed.f (k : Nat) (a0 : Bool) (l1 : List Int) : Option (Bool × List Int) := (integer_trim.f k l1).bind fun t108 => (if a0 = true then (some (decide (0 < t108.length), t108)) else (some (false, t108)))
theorem integer_signed.mono : ∀ a0 a1 k, LeO (integer_signed.f k a0 a1) (integer_signed.f (k + 1) a0 a1) := by
 intro a0 a1 k
 unfold integer_signed.f
 repeat' first
   | (with_reducible exact integer_trim.mono _ _)
   | (with_reducible exact LeO.refl _)
   | (with_reducible exact LeO.none _)
   | (with_reducible refine LeO.ite ?_ ?_)
   | (with_reducible refine LeO.bind ?_ (fun _ => ?_))
   | exact integer_trim.mono _ _
   | exact LeO.none _
   | refine LeO.ite ?_ ?_
   | refine LeO.bind ?_ (fun _ => ?_)
set_option maxHeartbeats 8000000 in
set_option maxRecDepth 100000 in
theorem integer_signed.calls (k : Nat) (a0 : Bool) (P1_ : Nat → Prop) (A1 : Option Addr) (c1 : Nat) (l1 : List Int) (r1 : Bool) (r2 : List Int) (w : World) (hs1 : Kd.V (Kd.int .u32) 60 w w.heap.size (fun k_ => P1_ k_) (.slice A1 l1.length c1) l1) (h : integer_signed.f k a0 l1 = some (r1, r2)) :
  Calls Tryd.prog 45 #[.bool a0, .slice A1 l1.length c1] w fun e w' => ∃ v1_ : Value, e = .returned (.agg #[.bool r1, v1_]) ∧ Kd.V (Kd.int .u32) 60 w' w.heap.size (fun k_ => (P1_ k_ ∨ w.heap.size ≤ k_)) v1_ r2 ∧ Below w.heap.size w w' := by
 have hu25 := Tryd.underlying25
 have HO1 := Aside0.mk (show Kd.V (Kd.int .u32) 60 w w.heap.size (fun k_ => (P1_ k_ ∨ w.heap.size ≤ k_)) (.slice A1 l1.length c1) l1 from Kd.V_mono hs1 (fun k_ hk => .inl hk))
 have HB := Aside0.mk (Below.refl w.heap.size w)
 have H : ((integer_trim.f k l1).bind fun t108 => (if a0 = true then (some (decide (0 < t108.length), t108)) else (some (false, t108)))) = some (r1, r2) := h
 clear h
 replace H := Option.bind_eq_some_iff.mp H
 obtain ⟨t108, A30, H⟩ := H
 replace H : (if a0 = true then (some (decide (0 < t108.length), t108)) else (some (false, t108))) = some (r1, r2) := H
 have A3 := Aside0.mk A30
 clear A30
 by_cases c4 : a0 = true
 ·
  subst c4
  have H1 : (some (decide (0 < t108.length), t108)) = some (r1, r2) := by rw [if_pos rfl] at H; exact H
  clear H
  have H := H1
  clear H1
  simp only [Option.some.injEq, Prod.mk.injEq] at H
  obtain ⟨rfl, rfl⟩ := H
  go_enter Tryd.func45, Tryd.ntmps45
  go_wp2_with (first | ((with_reducible refine gate_dst (N := 4) rfl ?_); (try (refine gate_guard (by rfl) ?_; dsimp only)); refine box_event ?hg (N := 4) ?hd (cs := #[.bool false, .slice none 0 0]) (t := 25) ?hr ?_; (case hd => rfl); (case hg => rfl); (case hr => first | (go_simp; done) | (go_simp; rfl)); intro gb107 hg w5 hbox hb; have n0_ := Aside0.mk (Kd.V_below (Kd.V_elderB (by (with_reducible repeat (first | apply Kd.V_alloc | apply Kd.V_drewN | apply Kd.V_drew)); exact HO1.out) gb107 (Nat.le_of_eq hg.symm)) hb); have n1_ := Aside0.mk (below_step (by repeat (first | (with_reducible first | exact HB.out | apply below_alloc | apply pw_below_drewN | apply below_drew1) | exact HB.out)) hb); have n2_ := Aside0.mk (hbox); have n3_ := Aside0.mk ((by rw [hg]; exact (below_size (by repeat (first | (with_reducible first | exact HB.out | apply below_alloc | apply pw_below_drewN | apply below_drew1) | exact HB.out))) : w.heap.size ≤ gb107)); have n4_ := Aside0.mk ((by rw [hg]; exact (below_size (by repeat (first | (with_reducible first | exact HB.out | apply below_alloc | apply pw_below_drewN | apply below_drew1) | exact HB.out))) : w.heap.size ≤ gb107)); clear HO1; clear HB; have HO1 := n0_; have HB := n1_; have BK107 := n2_; have GW107 := n3_; have GE107 := n4_; clear n0_ n1_ n2_ n3_ n4_; clear hb hbox hg) | ((with_reducible refine gate_callee (f := 67) rfl ?_); refine goesL_ (some 6) rfl rfl Tryd.func67 (by kernel_rfl) rfl #[.slice A1 l1.length c1] rfl (by (try simp only [List.map_toArray, List.map_cons, List.map_nil]); first | done | rfl | (simp only [List.length_drop, List.length_take]; rfl)) ?_; (with_reducible refine (integer_trim.calls k (fun k_ => ((P1_ k_ ∨ w.heap.size ≤ k_) ∧ k_ ≠ gb107)) _ _ l1 t108 _ ?side1 A3.out).mono ?_); (case side1 => exact HO1.out); rintro e w6 ⟨v109, rfl, ho0, hb⟩; refine ⟨_, rfl, ?_⟩; have n0_ := Aside0.mk (Kd.V_below (by (with_reducible repeat (first | apply Kd.V_alloc | apply Kd.V_drewN | apply Kd.V_drew)); exact HO1.out) hb); have n1_ := Aside0.mk (Kd.V_lower (Kd.V_mono (ok' := fun k_ => (P1_ k_ ∨ w.heap.size ≤ k_) ∧ k_ ≠ gb107) ho0 (fun k_ hk_ => ⟨Or.elim hk_ (fun hs_ => hs_.1) (fun hn_ => (.inr (Nat.le_trans (below_size (by repeat (first | (with_reducible first | exact HB.out | apply below_alloc | apply pw_below_drewN | apply below_drew1 | refine below_set ?_ GE107.out) | exact HB.out))) hn_))), Or.elim hk_ (fun hs_ => hs_.2) (fun hn_ => (Kd.freshB (g := gb107) (o := .cells #[.bool false, .slice none 0 0] 25 (0, 0)) (by (with_reducible repeat (first | refine blk_drewN ?_ _ | refine blk_drew ?_ | refine blk_alloc ?_ _)); exact BK107.out) k_ hn_))⟩)) (below_size (by repeat (first | (with_reducible first | exact HB.out | apply below_alloc | apply pw_below_drewN | apply below_drew1 | refine below_set ?_ GE107.out) | exact HB.out)))); have n2_ := Aside0.mk (blk_below (g := gb107) (o := .cells #[.bool false, .slice none 0 0] 25 (0, 0)) (by (with_reducible repeat (first | refine blk_drewN ?_ _ | refine blk_drew ?_ | refine blk_alloc ?_ _)); exact BK107.out) hb); have n3_ := Aside0.mk (below_step (by repeat (first | (with_reducible first | exact HB.out | apply below_alloc | apply pw_below_drewN | apply below_drew1 | refine below_set ?_ GE107.out) | exact HB.out)) hb); clear HO1; clear BK107; clear HB; have HO1 := n0_; have HO110 := n1_; have BK107 := n2_; have HB := n3_; clear n0_ n1_ n2_ n3_; (try clear hb); (try clear hb2); (try clear hk); (try clear hi); (try clear ho0); obtain ⟨Ao7, co7, eo7⟩ := Kd.V_slice HO110.out; subst eo7; have hcz8_0 : w6.cell? ⟨gb107, 0, none⟩ = some (.bool false) := (blk_cell BK107.out 0).trans rfl; have hcz8_1 : w6.cell? ⟨gb107, 1, none⟩ = some (.slice none 0 0) := (blk_cell BK107.out 1).trans rfl; have hfz8_0 := blk_frozen BK107.out 0; have hfz8_1 := blk_frozen BK107.out 1))
  refine bodyPost_ret (results_cell_row rfl _ _ gb107 25 #[.bool (decide (0 < t108.length)), .slice Ao7 t108.length co7] (0, 0) _ rfl (by (with_reducible repeat (first | refine blk_drewN ?_ _ | refine blk_drew ?_ | refine blk_alloc ?_ _)); refine blk_put (cs := #[.bool (decide (0 < t108.length)), .slice none 0 0]) ?_ 1 _ rfl; (with_reducible repeat (first | refine blk_drewN ?_ _ | refine blk_drew ?_ | refine blk_alloc ?_ _)); refine blk_put (cs := #[.bool false, .slice none 0 0]) ?_ 0 _ rfl; (with_reducible repeat (first | refine blk_drewN ?_ _ | refine blk_drew ?_ | refine blk_alloc ?_ _)); exact BK107.out) Tryd.underlying25 rfl (by kernel_rfl)) rfl ?_
  exact ⟨_, by first | rfl | (simp [errW_none, errW_some] <;> rfl) | (simp [*, errW_none, errW_some] <;> rfl), by (with_reducible repeat (first | apply Kd.V_alloc | apply Kd.V_drewN | apply Kd.V_drew)); exact Kd.V_mono (Kd.V_far (p := ⟨gb107, 1, none⟩) (Kd.V_far (p := ⟨gb107, 0, none⟩) (Kd.V_mono HO110.out (fun k_ hk => (⟨hk, hk.2⟩ : _ ∧ k_ ≠ gb107))) (fun _ hk => hk.2) (.bool (decide (0 < t108.length)))) (fun _ hk => hk.2) (.slice Ao7 t108.length co7)) (fun _ hk => hk.1.1), by repeat (first | (with_reducible first | exact HB.out | apply below_alloc | apply pw_below_drewN | apply below_drew1 | refine below_set ?_ GE107.out) | exact HB.out)⟩
 ·
  replace c4 := Bool.eq_false_iff.mpr c4
  subst c4
  have H1 : (some (false, t108)) = some (r1, r2) := by rw [if_neg (show ¬ (false = true) by decide)] at H; exact H
  clear H
  have H := H1
  clear H1
  simp only [Option.some.injEq, Prod.mk.injEq] at H
  obtain ⟨rfl, rfl⟩ := H
  go_enter Tryd.func45, Tryd.ntmps45
  go_wp2_with (first | ((with_reducible refine gate_dst (N := 4) rfl ?_); (try (refine gate_guard (by rfl) ?_; dsimp only)); refine box_event ?hg (N := 4) ?hd (cs := #[.bool false, .slice none 0 0]) (t := 25) ?hr ?_; (case hd => rfl); (case hg => rfl); (case hr => first | (go_simp; done) | (go_simp; rfl)); intro gb107 hg w9 hbox hb; have n0_ := Aside0.mk (Kd.V_below (Kd.V_elderB (by (with_reducible repeat (first | apply Kd.V_alloc | apply Kd.V_drewN | apply Kd.V_drew)); exact HO1.out) gb107 (Nat.le_of_eq hg.symm)) hb); have n1_ := Aside0.mk (below_step (by repeat (first | (with_reducible first | exact HB.out | apply below_alloc | apply pw_below_drewN | apply below_drew1) | exact HB.out)) hb); have n2_ := Aside0.mk (hbox); have n3_ := Aside0.mk ((by rw [hg]; exact (below_size (by repeat (first | (with_reducible first | exact HB.out | apply below_alloc | apply pw_below_drewN | apply below_drew1) | exact HB.out))) : w.heap.size ≤ gb107)); have n4_ := Aside0.mk ((by rw [hg]; exact (below_size (by repeat (first | (with_reducible first | exact HB.out | apply below_alloc | apply pw_below_drewN | apply below_drew1) | exact HB.out))) : w.heap.size ≤ gb107)); clear HO1; clear HB; have HO1 := n0_; have HB := n1_; have BK107 := n2_; have GW107 := n3_; have GE107 := n4_; clear n0_ n1_ n2_ n3_ n4_; clear hb hbox hg) | ((with_reducible refine gate_callee (f := 67) rfl ?_); refine goesL_ (some 6) rfl rfl Tryd.func67 (by kernel_rfl) rfl #[.slice A1 l1.length c1] rfl (by (try simp only [List.map_toArray, List.map_cons, List.map_nil]); first | done | rfl | (simp only [List.length_drop, List.length_take]; rfl)) ?_; (with_reducible refine (integer_trim.calls k (fun k_ => ((P1_ k_ ∨ w.heap.size ≤ k_) ∧ k_ ≠ gb107)) _ _ l1 t108 _ ?side1 A3.out).mono ?_); (case side1 => exact HO1.out); rintro e w10 ⟨v109, rfl, ho0, hb⟩; refine ⟨_, rfl, ?_⟩; have n0_ := Aside0.mk (Kd.V_below (by (with_reducible repeat (first | apply Kd.V_alloc | apply Kd.V_drewN | apply Kd.V_drew)); exact HO1.out) hb); have n1_ := Aside0.mk (Kd.V_lower (Kd.V_mono (ok' := fun k_ => (P1_ k_ ∨ w.heap.size ≤ k_) ∧ k_ ≠ gb107) ho0 (fun k_ hk_ => ⟨Or.elim hk_ (fun hs_ => hs_.1) (fun hn_ => (.inr (Nat.le_trans (below_size (by repeat (first | (with_reducible first | exact HB.out | apply below_alloc | apply pw_below_drewN | apply below_drew1 | refine below_set ?_ GE107.out) | exact HB.out))) hn_))), Or.elim hk_ (fun hs_ => hs_.2) (fun hn_ => (Kd.freshB (g := gb107) (o := .cells #[.bool false, .slice none 0 0] 25 (0, 0)) (by (with_reducible repeat (first | refine blk_drewN ?_ _ | refine blk_drew ?_ | refine blk_alloc ?_ _)); exact BK107.out) k_ hn_))⟩)) (below_size (by repeat (first | (with_reducible first | exact HB.out | apply below_alloc | apply pw_below_drewN | apply below_drew1 | refine below_set ?_ GE107.out) | exact HB.out)))); have n2_ := Aside0.mk (blk_below (g := gb107) (o := .cells #[.bool false, .slice none 0 0] 25 (0, 0)) (by (with_reducible repeat (first | refine blk_drewN ?_ _ | refine blk_drew ?_ | refine blk_alloc ?_ _)); exact BK107.out) hb); have n3_ := Aside0.mk (below_step (by repeat (first | (with_reducible first | exact HB.out | apply below_alloc | apply pw_below_drewN | apply below_drew1 | refine below_set ?_ GE107.out) | exact HB.out)) hb); clear HO1; clear BK107; clear HB; have HO1 := n0_; have HO110 := n1_; have BK107 := n2_; have HB := n3_; clear n0_ n1_ n2_ n3_; (try clear hb); (try clear hb2); (try clear hk); (try clear hi); (try clear ho0); obtain ⟨Ao11, co11, eo11⟩ := Kd.V_slice HO110.out; subst eo11; have hcz12_0 : w10.cell? ⟨gb107, 0, none⟩ = some (.bool false) := (blk_cell BK107.out 0).trans rfl; have hcz12_1 : w10.cell? ⟨gb107, 1, none⟩ = some (.slice none 0 0) := (blk_cell BK107.out 1).trans rfl; have hfz12_0 := blk_frozen BK107.out 0; have hfz12_1 := blk_frozen BK107.out 1))
  refine bodyPost_ret (results_cell_row rfl _ _ gb107 25 #[.bool false, .slice Ao11 t108.length co11] (0, 0) _ rfl (by (with_reducible repeat (first | refine blk_drewN ?_ _ | refine blk_drew ?_ | refine blk_alloc ?_ _)); refine blk_put (cs := #[.bool false, .slice none 0 0]) ?_ 1 _ rfl; (with_reducible repeat (first | refine blk_drewN ?_ _ | refine blk_drew ?_ | refine blk_alloc ?_ _)); refine blk_put (cs := #[.bool false, .slice none 0 0]) ?_ 0 _ rfl; (with_reducible repeat (first | refine blk_drewN ?_ _ | refine blk_drew ?_ | refine blk_alloc ?_ _)); exact BK107.out) Tryd.underlying25 rfl (by kernel_rfl)) rfl ?_
  exact ⟨_, by first | rfl | (simp [errW_none, errW_some] <;> rfl) | (simp [*, errW_none, errW_some] <;> rfl), by (with_reducible repeat (first | apply Kd.V_alloc | apply Kd.V_drewN | apply Kd.V_drew)); exact Kd.V_mono (Kd.V_far (p := ⟨gb107, 1, none⟩) (Kd.V_far (p := ⟨gb107, 0, none⟩) (Kd.V_mono HO110.out (fun k_ hk => (⟨hk, hk.2⟩ : _ ∧ k_ ≠ gb107))) (fun _ hk => hk.2) (.bool false)) (fun _ hk => hk.2) (.slice Ao11 t108.length co11)) (fun _ hk => hk.1.1), by repeat (first | (with_reducible first | exact HB.out | apply below_alloc | apply pw_below_drewN | apply below_drew1 | refine below_set ?_ GE107.out) | exact HB.out)⟩
def integer_From.f (k : Nat) (a0 : Int) : Option (Bool × List Int) := if a0 < 0 then ((integer_signed.f k true (([(IntKind.u64.wrap (-(IntKind.u64.wrap (a0)))) % 4294967296, ((IntKind.u64.wrap (-(IntKind.u64.wrap (a0)))) / 4294967296) % 4294967296] : List Int))).bind fun bt115 => (some (bt115.1, bt115.2))) else ((integer_signed.f k false (([(IntKind.u64.wrap (a0)) % 4294967296, ((IntKind.u64.wrap (a0)) / 4294967296) % 4294967296] : List Int))).bind fun bt122 => (some (bt122.1, bt122.2)))
theorem integer_From.mono : ∀ a0 k, LeO (integer_From.f k a0) (integer_From.f (k + 1) a0) := by
 intro a0 k
 unfold integer_From.f
 repeat' first
   | (with_reducible exact integer_signed.mono _ _ _)
   | (with_reducible exact LeO.refl _)
   | (with_reducible exact LeO.none _)
   | (with_reducible refine LeO.ite ?_ ?_)
   | (with_reducible refine LeO.bind ?_ (fun _ => ?_))
   | exact integer_signed.mono _ _ _
   | exact LeO.none _
   | refine LeO.ite ?_ ?_
   | refine LeO.bind ?_ (fun _ => ?_)
set_option maxHeartbeats 8000000 in
set_option maxRecDepth 100000 in
theorem integer_From.calls (k : Nat) (a0 : Int) (r1 : Bool) (r2 : List Int) (w : World) (h : integer_From.f k a0 = some (r1, r2)) :
  Calls Tryd.prog 15 #[.int .i64 a0] w fun e w' => ∃ v1_ : Value, e = .returned (.agg #[.bool r1, v1_]) ∧ Kd.V (Kd.int .u32) 60 w' w.heap.size (fun k_ => (w.heap.size ≤ k_)) v1_ r2 ∧ Below w.heap.size w w' := by
 have hu25 := Tryd.underlying25
 have HB := Aside0.mk (Below.refl w.heap.size w)
 have H : (if a0 < 0 then ((integer_signed.f k true (([(IntKind.u64.wrap (-(IntKind.u64.wrap (a0)))) % 4294967296, ((IntKind.u64.wrap (-(IntKind.u64.wrap (a0)))) / 4294967296) % 4294967296] : List Int))).bind fun bt115 => (some (bt115.1, bt115.2))) else ((integer_signed.f k false (([(IntKind.u64.wrap (a0)) % 4294967296, ((IntKind.u64.wrap (a0)) / 4294967296) % 4294967296] : List Int))).bind fun bt122 => (some (bt122.1, bt122.2)))) = some (r1, r2) := h
 clear h
 by_cases c2 : a0 < 0
 ·
  rw [if_pos c2] at H
  have c2b0 : decide (a0 < 0) = true := decide_eq_true c2
  clear c2
  obtain ⟨y112, hy112⟩ : ∃ y_ : List Int, y_ = (([(IntKind.u64.wrap (-(IntKind.u64.wrap (a0)))) % 4294967296, ((IntKind.u64.wrap (-(IntKind.u64.wrap (a0)))) / 4294967296) % 4294967296] : List Int)) := ⟨_, rfl⟩
  replace H : ((integer_signed.f k true y112).bind fun bt115 => (some (bt115.1, bt115.2))) = some (r1, r2) := by first | (rw [hy112]; with_reducible exact H) | (have H2_ := (Option.bind_some _ _).symm.trans H; rw [hy112]; with_reducible exact H2_) | (have H2_ := (Option.bind_some _ _).symm.trans H; with_reducible exact H2_) | with_reducible exact H | (rw [hy112]; exact H) | exact H
  have Ny112 := Aside0.mk hy112
  clear hy112
  replace H := Option.bind_eq_some_iff.mp H
  obtain ⟨⟨t115, t116⟩, A30, H⟩ := H
  replace H : (some (t115, t116)) = some (r1, r2) := H
  have A3 := Aside0.mk A30
  clear A30
  simp only [Option.some.injEq, Prod.mk.injEq] at H
  obtain ⟨rfl, rfl⟩ := H
  go_enter Tryd.func15, Tryd.ntmps15
  go_wp2_with (first | ((with_reducible refine gate_dst (N := 2) rfl ?_); refine box_event ?hg (N := 2) ?hd (cs := #[.bool false, .slice none 0 0]) (t := 25) ?hr ?_; (case hd => rfl); (case hg => rfl); (case hr => first | (go_simp; done) | (go_simp; rfl)); intro gb111 hg w4 hbox hb; have n0_ := Aside0.mk (below_step (by repeat (first | (with_reducible first | exact HB.out | apply below_alloc | apply pw_below_drewN | apply below_drew1) | exact HB.out)) hb); have n1_ := Aside0.mk (hbox); have n2_ := Aside0.mk ((by rw [hg]; exact (below_size (by repeat (first | (with_reducible first | exact HB.out | apply below_alloc | apply pw_below_drewN | apply below_drew1) | exact HB.out))) : w.heap.size ≤ gb111)); have n3_ := Aside0.mk ((by rw [hg]; exact (below_size (by repeat (first | (with_reducible first | exact HB.out | apply below_alloc | apply pw_below_drewN | apply below_drew1) | exact HB.out))) : w.heap.size ≤ gb111)); clear HB; have HB := n0_; have BK111 := n1_; have GW111 := n2_; have GE111 := n3_; clear n0_ n1_ n2_ n3_; clear hb hbox hg) | ((with_reducible refine gate_dst (N := 17) rfl ?_); refine Kd.R_lit (Kd.int .u32) _ 60 ?hg (N := 17) ?hd (xs := ([(IntKind.u64.wrap (-(IntKind.u64.wrap (a0)))) % 4294967296, ((IntKind.u64.wrap (-(IntKind.u64.wrap (a0)))) / 4294967296) % 4294967296] : List Int)) (inner := [.int .u32 ((IntKind.u64.wrap (-(IntKind.u64.wrap (a0)))) % 4294967296), .int .u32 (((IntKind.u64.wrap (-(IntKind.u64.wrap (a0)))) / 4294967296) % 4294967296)]) (ok := fun _ => True) (okp := fun _ => True) ?hr ?hp (fun _ hk => hk) trivial (Below.refl _ _) (Nat.le_refl _) (by simp) ?_; (case hd => rfl); (case hg => rfl); (case hr => first | (go_simp; done) | (go_simp; rfl)); (case hp => exact (Reps.one (show Kd.M (Kd.int .u32) _ _ _ ((IntKind.u64.wrap (-(IntKind.u64.wrap (a0)))) % 4294967296) [.int .u32 ((IntKind.u64.wrap (-(IntKind.u64.wrap (a0)))) % 4294967296)] from rfl) (Reps.one (show Kd.M (Kd.int .u32) _ _ _ (((IntKind.u64.wrap (-(IntKind.u64.wrap (a0)))) / 4294967296) % 4294967296) [.int .u32 (((IntKind.u64.wrap (-(IntKind.u64.wrap (a0)))) / 4294967296) % 4294967296)] from rfl) (Reps.none _ _)))); intro v113 w5 ho6 hb hg_ hnew_; clear hg_ hnew_; (first | rw [← Ny112.out] at ho6 | (simp only [Int.reduceToNat] at ho6; rw [← Ny112.out] at ho6)); have n0_ := Aside0.mk (Kd.R_lower (Kd.R_newM (M := fun k_ => (w.heap.size ≤ k_)) ho6 (below_size (by repeat (first | (with_reducible first | exact HB.out | apply below_alloc | apply pw_below_drewN | apply below_drew1 | refine below_set ?_ GE111.out) | exact HB.out))) (fun k_ h_ => h_)) (below_size (by repeat (first | (with_reducible first | exact HB.out | apply below_alloc | apply pw_below_drewN | apply below_drew1 | refine below_set ?_ GE111.out) | exact HB.out)))); have n1_ := Aside0.mk (blk_below (g := gb111) (o := .cells #[.bool false, .slice none 0 0] 25 (0, 0)) (by (with_reducible repeat (first | refine blk_drewN ?_ _ | refine blk_drew ?_ | refine blk_alloc ?_ _)); exact BK111.out) hb); have n2_ := Aside0.mk (below_step (by repeat (first | (with_reducible first | exact HB.out | apply below_alloc | apply pw_below_drewN | apply below_drew1 | refine below_set ?_ GE111.out) | exact HB.out)) hb); clear BK111; clear HB; have HO114 := n0_; have BK111 := n1_; have HB := n2_; clear n0_ n1_ n2_; clear hb ho6; obtain ⟨Ao7, co7, eo7⟩ := Kd.R_slice HO114.out; subst eo7) | ((with_reducible refine gate_callee (f := 45) rfl ?_); refine goesL_ (some 18) rfl rfl Tryd.func45 (by kernel_rfl) rfl #[.bool true, .slice Ao7 y112.length co7] rfl (by (try simp only [List.map_toArray, List.map_cons, List.map_nil]); first | done | rfl | (simp only [List.length_drop, List.length_take]; rfl)) ?_; (with_reducible refine (integer_signed.calls k true (fun k_ => some k_ = (.slice Ao7 y112.length co7 : Value).ownBlock) _ _ y112 t115 t116 _ ?side1 A3.out).mono ?_); (case side1 => exact Kd.R_V (Kd.R_tight rfl (Kd.R_types (HO114.out) BK111.out (by decide)))); rintro e w8 ⟨v117, rfl, ho0, hb⟩; refine ⟨_, rfl, ?_⟩; have n0_ := Aside0.mk (Kd.R_below (by (with_reducible repeat (first | apply Kd.R_alloc | apply Kd.R_drewN | apply Kd.R_drew)); exact HO114.out) hb); have n1_ := Aside0.mk (Kd.V_lower (Kd.V_mono (ok' := fun k_ => (w.heap.size ≤ k_) ∧ k_ ≠ gb111) ho0 (fun k_ hk_ => ⟨Or.elim hk_ (fun hs_ => ((Kd.R_types (HO114.out) BK111.out (by decide)).1 k_ hs_.symm).1.1) (fun hn_ => (Nat.le_trans (below_size (by repeat (first | (with_reducible first | exact HB.out | apply below_alloc | apply pw_below_drewN | apply below_drew1 | refine below_set ?_ GE111.out) | exact HB.out))) hn_)), Or.elim hk_ (fun hs_ => ((Kd.R_types (HO114.out) BK111.out (by decide)).1 k_ hs_.symm).2) (fun hn_ => (Kd.freshB (g := gb111) (o := .cells #[.bool false, .slice none 0 0] 25 (0, 0)) (by (with_reducible repeat (first | refine blk_drewN ?_ _ | refine blk_drew ?_ | refine blk_alloc ?_ _)); exact BK111.out) k_ hn_))⟩)) (below_size (by repeat (first | (with_reducible first | exact HB.out | apply below_alloc | apply pw_below_drewN | apply below_drew1 | refine below_set ?_ GE111.out) | exact HB.out)))); have n2_ := Aside0.mk (blk_below (g := gb111) (o := .cells #[.bool false, .slice none 0 0] 25 (0, 0)) (by (with_reducible repeat (first | refine blk_drewN ?_ _ | refine blk_drew ?_ | refine blk_alloc ?_ _)); exact BK111.out) hb); have n3_ := Aside0.mk (below_step (by repeat (first | (with_reducible first | exact HB.out | apply below_alloc | apply pw_below_drewN | apply below_drew1 | refine below_set ?_ GE111.out) | exact HB.out)) hb); clear HO114; clear BK111; clear HB; have HO114 := n0_; have HO118 := n1_; have BK111 := n2_; have HB := n3_; clear n0_ n1_ n2_ n3_; (try clear hb); (try clear hb2); (try clear hk); (try clear hi); (try clear ho0); have hcz9_0 : w8.cell? ⟨gb111, 0, none⟩ = some (.bool false) := (blk_cell BK111.out 0).trans rfl; have hcz9_1 : w8.cell? ⟨gb111, 1, none⟩ = some (.slice none 0 0) := (blk_cell BK111.out 1).trans rfl; have hfz9_0 := blk_frozen BK111.out 0; have hfz9_1 := blk_frozen BK111.out 1; obtain ⟨Ao10, co10, eo10⟩ := Kd.V_slice HO118.out; subst eo10))
  refine bodyPost_ret (results_cell_row rfl _ _ gb111 25 #[.bool t115, .slice Ao10 t116.length co10] (0, 0) _ rfl (by (with_reducible repeat (first | refine blk_drewN ?_ _ | refine blk_drew ?_ | refine blk_alloc ?_ _)); refine blk_put (cs := #[.bool t115, .slice none 0 0]) ?_ 1 _ rfl; (with_reducible repeat (first | refine blk_drewN ?_ _ | refine blk_drew ?_ | refine blk_alloc ?_ _)); refine blk_put (cs := #[.bool false, .slice none 0 0]) ?_ 0 _ rfl; (with_reducible repeat (first | refine blk_drewN ?_ _ | refine blk_drew ?_ | refine blk_alloc ?_ _)); exact BK111.out) Tryd.underlying25 rfl (by kernel_rfl)) rfl ?_
  exact ⟨_, by first | rfl | (simp [errW_none, errW_some] <;> rfl) | (simp [*, errW_none, errW_some] <;> rfl), by (with_reducible repeat (first | apply Kd.V_alloc | apply Kd.V_drewN | apply Kd.V_drew)); exact Kd.V_mono (Kd.V_far (p := ⟨gb111, 1, none⟩) (Kd.V_far (p := ⟨gb111, 0, none⟩) (Kd.V_mono HO118.out (fun k_ hk => (⟨hk, hk.2⟩ : _ ∧ k_ ≠ gb111))) (fun _ hk => hk.2) (.bool t115)) (fun _ hk => hk.2) (.slice Ao10 t116.length co10)) (fun _ hk => hk.1.1), by repeat (first | (with_reducible first | exact HB.out | apply below_alloc | apply pw_below_drewN | apply below_drew1 | refine below_set ?_ GE111.out) | exact HB.out)⟩
 ·
  rw [if_neg c2] at H
  have c2b0 : decide (a0 < 0) = false := decide_eq_false c2
  clear c2
  obtain ⟨y119, hy119⟩ : ∃ y_ : List Int, y_ = (([(IntKind.u64.wrap (a0)) % 4294967296, ((IntKind.u64.wrap (a0)) / 4294967296) % 4294967296] : List Int)) := ⟨_, rfl⟩
  replace H : ((integer_signed.f k false y119).bind fun bt122 => (some (bt122.1, bt122.2))) = some (r1, r2) := by first | (rw [hy119]; with_reducible exact H) | (have H2_ := (Option.bind_some _ _).symm.trans H; rw [hy119]; with_reducible exact H2_) | (have H2_ := (Option.bind_some _ _).symm.trans H; with_reducible exact H2_) | with_reducible exact H | (rw [hy119]; exact H) | exact H
  have Ny119 := Aside0.mk hy119
  clear hy119
  replace H := Option.bind_eq_some_iff.mp H
  obtain ⟨⟨t122, t123⟩, A110, H⟩ := H
  replace H : (some (t122, t123)) = some (r1, r2) := H
  have A11 := Aside0.mk A110
  clear A110
  simp only [Option.some.injEq, Prod.mk.injEq] at H
  obtain ⟨rfl, rfl⟩ := H
  go_enter Tryd.func15, Tryd.ntmps15
  go_wp2_with (first | ((with_reducible refine gate_dst (N := 2) rfl ?_); refine box_event ?hg (N := 2) ?hd (cs := #[.bool false, .slice none 0 0]) (t := 25) ?hr ?_; (case hd => rfl); (case hg => rfl); (case hr => first | (go_simp; done) | (go_simp; rfl)); intro gb111 hg w12 hbox hb; have n0_ := Aside0.mk (below_step (by repeat (first | (with_reducible first | exact HB.out | apply below_alloc | apply pw_below_drewN | apply below_drew1) | exact HB.out)) hb); have n1_ := Aside0.mk (hbox); have n2_ := Aside0.mk ((by rw [hg]; exact (below_size (by repeat (first | (with_reducible first | exact HB.out | apply below_alloc | apply pw_below_drewN | apply below_drew1) | exact HB.out))) : w.heap.size ≤ gb111)); have n3_ := Aside0.mk ((by rw [hg]; exact (below_size (by repeat (first | (with_reducible first | exact HB.out | apply below_alloc | apply pw_below_drewN | apply below_drew1) | exact HB.out))) : w.heap.size ≤ gb111)); clear HB; have HB := n0_; have BK111 := n1_; have GW111 := n2_; have GE111 := n3_; clear n0_ n1_ n2_ n3_; clear hb hbox hg) | ((with_reducible refine gate_dst (N := 17) rfl ?_); refine Kd.R_lit (Kd.int .u32) _ 60 ?hg (N := 17) ?hd (xs := ([(IntKind.u64.wrap (a0)) % 4294967296, ((IntKind.u64.wrap (a0)) / 4294967296) % 4294967296] : List Int)) (inner := [.int .u32 ((IntKind.u64.wrap (a0)) % 4294967296), .int .u32 (((IntKind.u64.wrap (a0)) / 4294967296) % 4294967296)]) (ok := fun _ => True) (okp := fun _ => True) ?hr ?hp (fun _ hk => hk) trivial (Below.refl _ _) (Nat.le_refl _) (by simp) ?_; (case hd => rfl); (case hg => rfl); (case hr => first | (go_simp; done) | (go_simp; rfl)); (case hp => exact (Reps.one (show Kd.M (Kd.int .u32) _ _ _ ((IntKind.u64.wrap (a0)) % 4294967296) [.int .u32 ((IntKind.u64.wrap (a0)) % 4294967296)] from rfl) (Reps.one (show Kd.M (Kd.int .u32) _ _ _ (((IntKind.u64.wrap (a0)) / 4294967296) % 4294967296) [.int .u32 (((IntKind.u64.wrap (a0)) / 4294967296) % 4294967296)] from rfl) (Reps.none _ _)))); intro v120 w13 ho14 hb hg_ hnew_; clear hg_ hnew_; (first | rw [← Ny119.out] at ho14 | (simp only [Int.reduceToNat] at ho14; rw [← Ny119.out] at ho14)); have n0_ := Aside0.mk (Kd.R_lower (Kd.R_newM (M := fun k_ => (w.heap.size ≤ k_)) ho14 (below_size (by repeat (first | (with_reducible first | exact HB.out | apply below_alloc | apply pw_below_drewN | apply below_drew1 | refine below_set ?_ GE111.out) | exact HB.out))) (fun k_ h_ => h_)) (below_size (by repeat (first | (with_reducible first | exact HB.out | apply below_alloc | apply pw_below_drewN | apply below_drew1 | refine below_set ?_ GE111.out) | exact HB.out)))); have n1_ := Aside0.mk (blk_below (g := gb111) (o := .cells #[.bool false, .slice none 0 0] 25 (0, 0)) (by (with_reducible repeat (first | refine blk_drewN ?_ _ | refine blk_drew ?_ | refine blk_alloc ?_ _)); exact BK111.out) hb); have n2_ := Aside0.mk (below_step (by repeat (first | (with_reducible first | exact HB.out | apply below_alloc | apply pw_below_drewN | apply below_drew1 | refine below_set ?_ GE111.out) | exact HB.out)) hb); clear BK111; clear HB; have HO121 := n0_; have BK111 := n1_; have HB := n2_; clear n0_ n1_ n2_; clear hb ho14; obtain ⟨Ao15, co15, eo15⟩ := Kd.R_slice HO121.out; subst eo15) | ((with_reducible refine gate_callee (f := 45) rfl ?_); refine goesL_ (some 18) rfl rfl Tryd.func45 (by kernel_rfl) rfl #[.bool false, .slice Ao15 y119.length co15] rfl (by (try simp only [List.map_toArray, List.map_cons, List.map_nil]); first | done | rfl | (simp only [List.length_drop, List.length_take]; rfl)) ?_; (with_reducible refine (integer_signed.calls k false (fun k_ => some k_ = (.slice Ao15 y119.length co15 : Value).ownBlock) _ _ y119 t122 t123 _ ?side1 A11.out).mono ?_); (case side1 => exact Kd.R_V (Kd.R_tight rfl (Kd.R_types (HO121.out) BK111.out (by decide)))); rintro e w16 ⟨v124, rfl, ho0, hb⟩; refine ⟨_, rfl, ?_⟩; have n0_ := Aside0.mk (Kd.R_below (by (with_reducible repeat (first | apply Kd.R_alloc | apply Kd.R_drewN | apply Kd.R_drew)); exact HO121.out) hb); have n1_ := Aside0.mk (Kd.V_lower (Kd.V_mono (ok' := fun k_ => (w.heap.size ≤ k_) ∧ k_ ≠ gb111) ho0 (fun k_ hk_ => ⟨Or.elim hk_ (fun hs_ => ((Kd.R_types (HO121.out) BK111.out (by decide)).1 k_ hs_.symm).1.1) (fun hn_ => (Nat.le_trans (below_size (by repeat (first | (with_reducible first | exact HB.out | apply below_alloc | apply pw_below_drewN | apply below_drew1 | refine below_set ?_ GE111.out) | exact HB.out))) hn_)), Or.elim hk_ (fun hs_ => ((Kd.R_types (HO121.out) BK111.out (by decide)).1 k_ hs_.symm).2) (fun hn_ => (Kd.freshB (g := gb111) (o := .cells #[.bool false, .slice none 0 0] 25 (0, 0)) (by (with_reducible repeat (first | refine blk_drewN ?_ _ | refine blk_drew ?_ | refine blk_alloc ?_ _)); exact BK111.out) k_ hn_))⟩)) (below_size (by repeat (first | (with_reducible first | exact HB.out | apply below_alloc | apply pw_below_drewN | apply below_drew1 | refine below_set ?_ GE111.out) | exact HB.out)))); have n2_ := Aside0.mk (blk_below (g := gb111) (o := .cells #[.bool false, .slice none 0 0] 25 (0, 0)) (by (with_reducible repeat (first | refine blk_drewN ?_ _ | refine blk_drew ?_ | refine blk_alloc ?_ _)); exact BK111.out) hb); have n3_ := Aside0.mk (below_step (by repeat (first | (with_reducible first | exact HB.out | apply below_alloc | apply pw_below_drewN | apply below_drew1 | refine below_set ?_ GE111.out) | exact HB.out)) hb); clear HO121; clear BK111; clear HB; have HO121 := n0_; have HO125 := n1_; have BK111 := n2_; have HB := n3_; clear n0_ n1_ n2_ n3_; (try clear hb); (try clear hb2); (try clear hk); (try clear hi); (try clear ho0); have hcz17_0 : w16.cell? ⟨gb111, 0, none⟩ = some (.bool false) := (blk_cell BK111.out 0).trans rfl; have hcz17_1 : w16.cell? ⟨gb111, 1, none⟩ = some (.slice none 0 0) := (blk_cell BK111.out 1).trans rfl; have hfz17_0 := blk_frozen BK111.out 0; have hfz17_1 := blk_frozen BK111.out 1; obtain ⟨Ao18, co18, eo18⟩ := Kd.V_slice HO125.out; subst eo18))
  refine bodyPost_ret (results_cell_row rfl _ _ gb111 25 #[.bool t122, .slice Ao18 t123.length co18] (0, 0) _ rfl (by (with_reducible repeat (first | refine blk_drewN ?_ _ | refine blk_drew ?_ | refine blk_alloc ?_ _)); refine blk_put (cs := #[.bool t122, .slice none 0 0]) ?_ 1 _ rfl; (with_reducible repeat (first | refine blk_drewN ?_ _ | refine blk_drew ?_ | refine blk_alloc ?_ _)); refine blk_put (cs := #[.bool false, .slice none 0 0]) ?_ 0 _ rfl; (with_reducible repeat (first | refine blk_drewN ?_ _ | refine blk_drew ?_ | refine blk_alloc ?_ _)); exact BK111.out) Tryd.underlying25 rfl (by kernel_rfl)) rfl ?_
  exact ⟨_, by first | rfl | (simp [errW_none, errW_some] <;> rfl) | (simp [*, errW_none, errW_some] <;> rfl), by (with_reducible repeat (first | apply Kd.V_alloc | apply Kd.V_drewN | apply Kd.V_drew)); exact Kd.V_mono (Kd.V_far (p := ⟨gb111, 1, none⟩) (Kd.V_far (p := ⟨gb111, 0, none⟩) (Kd.V_mono HO125.out (fun k_ hk => (⟨hk, hk.2⟩ : _ ∧ k_ ≠ gb111))) (fun _ hk => hk.2) (.bool t122)) (fun _ hk => hk.2) (.slice Ao18 t123.length co18)) (fun _ hk => hk.1.1), by repeat (first | (with_reducible first | exact HB.out | apply below_alloc | apply pw_below_drewN | apply below_drew1 | refine below_set ?_ GE111.out) | exact HB.out)⟩
mutual
def integer_Mul.l0 : Nat → List Int → List Int → Int → Int → Bool → List Int → Bool → List Int → Option (Bool × List Int)
 | 0, _, _, _, _, _, _, _, _ => none
 | k + 1, x5, x20, x21, x22, x333000, x333001, x334000, x334001 => if x22 < x21 then (if 0 ≤ x22 then (if x22 < (x20.length : Int) then (integer_Mul.l1 k x5 x22 (rd x20 x22) 0 x20 x21 x22 x334001 (x334001.length : Int) 0 x333000 x333001 x334000 x334001) else (none)) else (none)) else ((integer_signed.f k (x333000 != x334000) x5).bind fun bt338 => (some (bt338.1, bt338.2)))
def integer_Mul.l1 : Nat → List Int → Int → Int → Int → List Int → Int → Int → List Int → Int → Int → Bool → List Int → Bool → List Int → Option (Bool × List Int)
 | 0, _, _, _, _, _, _, _, _, _, _, _, _, _, _ => none
 | k + 1, x5, x6, x7, x8, x20, x21, x22, x28, x29, x30, x333000, x333001, x334000, x334001 => if x30 < x29 then (if 0 ≤ x30 then (if x30 < (x28.length : Int) then (if 0 ≤ (wrap64 (x6 + x30)) then (if (wrap64 (x6 + x30)) < (x5.length : Int) then (integer_Mul.l1 k (x5.set ((wrap64 (x6 + x30)) : Int).toNat ((IntKind.u64.wrap (x8 + (IntKind.u64.wrap ((IntKind.u64.wrap ((IntKind.u64.wrap (x7)) * (IntKind.u64.wrap (rd x28 x30)))) + (IntKind.u64.wrap (rd x5 (wrap64 (x6 + x30)))))))) % 4294967296)) x6 x7 ((IntKind.u64.wrap (x8 + (IntKind.u64.wrap ((IntKind.u64.wrap ((IntKind.u64.wrap (x7)) * (IntKind.u64.wrap (rd x28 x30)))) + (IntKind.u64.wrap (rd x5 (wrap64 (x6 + x30)))))))) / 4294967296) x20 x21 x22 x28 x29 (wrap64 (x30 + 1)) x333000 x333001 x334000 x334001) else (none)) else (none)) else (none)) else (none)) else (if 0 ≤ (wrap64 (x6 + (x334001.length : Int))) then (if (wrap64 (x6 + (x334001.length : Int))) < (x5.length : Int) then (integer_Mul.l0 k (x5.set ((wrap64 (x6 + (x334001.length : Int))) : Int).toNat ((x8) % 4294967296)) x20 x21 (wrap64 (x22 + 1)) x333000 x333001 x334000 x334001) else (none)) else (none))
end
def integer_Mul.f (k : Nat) (a0_0 : Bool) (l0_1 : List Int) (a1_0 : Bool) (l1_1 : List Int) : Option (Bool × List Int) := if 0 ≤ (wrap64 ((l0_1.length : Int) + (l1_1.length : Int))) then (if (wrap64 ((l0_1.length : Int) + (l1_1.length : Int)) : Int).toNat ≤ 70368744177664 then (integer_Mul.l0 k (List.replicate (wrap64 ((l0_1.length : Int) + (l1_1.length : Int)) : Int).toNat 0) l0_1 (l0_1.length : Int) 0 a0_0 l0_1 a1_0 l1_1) else (none)) else (none)
theorem integer_Mul.mono_l : ∀ k, (∀ y0 y1 y2 y3 y4 y5 y6 y7, LeO (integer_Mul.l0 k y0 y1 y2 y3 y4 y5 y6 y7) (integer_Mul.l0 (k + 1) y0 y1 y2 y3 y4 y5 y6 y7)) ∧ (∀ y0 y1 y2 y3 y4 y5 y6 y7 y8 y9 y10 y11 y12 y13, LeO (integer_Mul.l1 k y0 y1 y2 y3 y4 y5 y6 y7 y8 y9 y10 y11 y12 y13) (integer_Mul.l1 (k + 1) y0 y1 y2 y3 y4 y5 y6 y7 y8 y9 y10 y11 y12 y13))
 | 0 => ⟨fun _ _ _ _ _ _ _ _ r h => by simp [integer_Mul.l0] at h, fun _ _ _ _ _ _ _ _ _ _ _ _ _ _ r h => by simp [integer_Mul.l1] at h⟩
 | k + 1 => by
  obtain ⟨ih0, ih1⟩ := integer_Mul.mono_l k
  refine ⟨?_, ?_⟩
  ·
   intro y0 y1 y2 y3 y4 y5 y6 y7
   unfold integer_Mul.l0
   repeat' first
   | (with_reducible exact ih0 _ _ _ _ _ _ _ _)
   | (with_reducible exact ih1 _ _ _ _ _ _ _ _ _ _ _ _ _ _)
   | (with_reducible exact integer_signed.mono _ _ _)
   | (with_reducible exact LeO.refl _)
   | (with_reducible exact LeO.none _)
   | (with_reducible refine LeO.ite ?_ ?_)
   | (with_reducible refine LeO.bind ?_ (fun _ => ?_))
   | exact ih0 _ _ _ _ _ _ _ _
   | exact ih1 _ _ _ _ _ _ _ _ _ _ _ _ _ _
   | exact integer_signed.mono _ _ _
   | exact LeO.none _
   | refine LeO.ite ?_ ?_
   | refine LeO.bind ?_ (fun _ => ?_)
  ·
   intro y0 y1 y2 y3 y4 y5 y6 y7 y8 y9 y10 y11 y12 y13
   unfold integer_Mul.l1
   repeat' first
   | (with_reducible exact ih0 _ _ _ _ _ _ _ _)
   | (with_reducible exact ih1 _ _ _ _ _ _ _ _ _ _ _ _ _ _)
   | (with_reducible exact integer_signed.mono _ _ _)
   | (with_reducible exact LeO.refl _)
   | (with_reducible exact LeO.none _)
   | (with_reducible refine LeO.ite ?_ ?_)
   | (with_reducible refine LeO.bind ?_ (fun _ => ?_))
   | exact ih0 _ _ _ _ _ _ _ _
   | exact ih1 _ _ _ _ _ _ _ _ _ _ _ _ _ _
   | exact integer_signed.mono _ _ _
   | exact LeO.none _
   | refine LeO.ite ?_ ?_
   | refine LeO.bind ?_ (fun _ => ?_)
theorem integer_Mul.mono : ∀ a0 a1 a2 a3 k, LeO (integer_Mul.f k a0 a1 a2 a3) (integer_Mul.f (k + 1) a0 a1 a2 a3) := by
 intro a0 a1 a2 a3 k
 obtain ⟨ih0, ih1⟩ := integer_Mul.mono_l k
 unfold integer_Mul.f
 repeat' first
   | (with_reducible exact ih0 _ _ _ _ _ _ _ _)
   | (with_reducible exact ih1 _ _ _ _ _ _ _ _ _ _ _ _ _ _)
   | (with_reducible exact integer_signed.mono _ _ _)
   | (with_reducible exact LeO.refl _)
   | (with_reducible exact LeO.none _)
   | (with_reducible refine LeO.ite ?_ ?_)
   | (with_reducible refine LeO.bind ?_ (fun _ => ?_))
   | exact ih0 _ _ _ _ _ _ _ _
   | exact ih1 _ _ _ _ _ _ _ _ _ _ _ _ _ _
   | exact integer_signed.mono _ _ _
   | exact LeO.none _
   | refine LeO.ite ?_ ?_
   | refine LeO.bind ?_ (fun _ => ?_)
set_option maxHeartbeats 8000000 in
set_option maxRecDepth 100000 in
theorem integer_Mul.calls (k : Nat) (a0_0 : Bool) (A0_1 : Option Addr) (c0_1 : Nat) (l0_1 : List Int) (a1_0 : Bool) (A1_1 : Option Addr) (c1_1 : Nat) (l1_1 : List Int) (r1 : Bool) (r2 : List Int) (w : World) (hr0_1 : Kd.C (Kd.int .u32) w A0_1 l0_1.length l0_1) (hc0_1 : l0_1.length ≤ c0_1) (hr1_1 : Kd.C (Kd.int .u32) w A1_1 l1_1.length l1_1) (hc1_1 : l1_1.length ≤ c1_1) (h : integer_Mul.f k a0_0 l0_1 a1_0 l1_1 = some (r1, r2)) :
  Calls Tryd.prog 25 #[.agg #[.bool a0_0, .slice A0_1 l0_1.length c0_1], .agg #[.bool a1_0, .slice A1_1 l1_1.length c1_1]] w fun e w' => ∃ v1_ : Value, e = .returned (.agg #[.bool r1, v1_]) ∧ Kd.V (Kd.int .u32) 60 w' w.heap.size (fun k_ => (w.heap.size ≤ k_)) v1_ r2 ∧ Below w.heap.size w w' := by
 have hu25 := Tryd.underlying25
 have HR0_1 := Aside0.mk hr0_1
 have HC0_1 := Aside0.mk hc0_1
 clear hr0_1 hc0_1
 have HR1_1 := Aside0.mk hr1_1
 have HC1_1 := Aside0.mk hc1_1
 clear hr1_1 hc1_1
 have HB := Aside0.mk (Below.refl w.heap.size w)
 have H : (if 0 ≤ (wrap64 ((l0_1.length : Int) + (l1_1.length : Int))) then (if (wrap64 ((l0_1.length : Int) + (l1_1.length : Int)) : Int).toNat ≤ 70368744177664 then (integer_Mul.l0 k (List.replicate (wrap64 ((l0_1.length : Int) + (l1_1.length : Int)) : Int).toNat 0) l0_1 (l0_1.length : Int) 0 a0_0 l0_1 a1_0 l1_1) else (none)) else (none)) = some (r1, r2) := h
 clear h
 obtain ⟨ji3, hji3⟩ : ∃ j_ : Int, (wrap64 ((l0_1.length : Int) + (l1_1.length : Int))) = j_ := ⟨_, rfl⟩
 replace H : (if 0 ≤ (ji3) then (if (ji3 : Int).toNat ≤ 70368744177664 then (integer_Mul.l0 k (List.replicate (ji3 : Int).toNat 0) l0_1 (l0_1.length : Int) 0 a0_0 l0_1 a1_0 l1_1) else (none)) else (none)) = some (r1, r2) := by first | (rw [hji3] at H; exact H) | (simp only [hji3] at H ⊢; exact H)
 have hji3w : (IntKind.i64.wrap ((l0_1.length : Int) + (l1_1.length : Int))) = ji3 := (i64_w _).trans hji3
 by_cases c4 : 0 ≤ (ji3)
 ·
  rw [if_pos c4] at H
  have c4b0 := eq_true c4
  have c4b1 : decide (0 ≤ (ji3)) = true := decide_eq_true c4
  clear c4
  by_cases c5 : (ji3 : Int).toNat ≤ 70368744177664
  ·
   rw [if_pos c5] at H
   have c5b0 := eq_true c5
   have c5b1 : decide ((ji3 : Int).toNat ≤ 70368744177664) = true := decide_eq_true c5
   clear c5
   obtain ⟨y335, hy335⟩ : ∃ y_ : List Int, y_ = (List.replicate (ji3 : Int).toNat 0) := ⟨_, rfl⟩
   replace H : (integer_Mul.l0 k y335 l0_1 (l0_1.length : Int) 0 a0_0 l0_1 a1_0 l1_1) = some (r1, r2) := by first | (rw [hy335]; with_reducible exact H) | (have H2_ := (Option.bind_some _ _).symm.trans H; rw [hy335]; with_reducible exact H2_) | (have H2_ := (Option.bind_some _ _).symm.trans H; with_reducible exact H2_) | with_reducible exact H | (rw [hy335]; exact H) | exact H
   have Ny335 := Aside0.mk hy335
   clear hy335
   have H' := Aside0.mk H
   clear H
   go_enter Tryd.func25, Tryd.ntmps25
   go_wp2_with (first | ((with_reducible refine gate_dst (N := 2) rfl ?_); refine box_event ?hg (N := 2) ?hd (cs := #[.bool a0_0, .slice A0_1 l0_1.length c0_1]) (t := 25) ?hr ?_; (case hd => rfl); (case hg => rfl); (case hr => first | (go_simp; done) | (go_simp; rfl)); intro gb332 hg w6 hbox hb; have n0_ := Aside0.mk (below_step (by repeat (first | (with_reducible first | exact HB.out | apply below_alloc | apply pw_below_drewN | apply below_drew1) | exact HB.out)) hb); have n1_ := Aside0.mk (hbox); have n2_ := Aside0.mk ((by rw [hg]; exact (below_size (by repeat (first | (with_reducible first | exact HB.out | apply below_alloc | apply pw_below_drewN | apply below_drew1) | exact HB.out))) : w.heap.size ≤ gb332)); have n3_ := Aside0.mk ((by rw [hg]; exact (below_size (by repeat (first | (with_reducible first | exact HB.out | apply below_alloc | apply pw_below_drewN | apply below_drew1) | exact HB.out))) : w.heap.size ≤ gb332)); clear HB; have HB := n0_; have BK332 := n1_; have GW332 := n2_; have GE332 := n3_; clear n0_ n1_ n2_ n3_; clear hb hbox hg) | ((with_reducible refine gate_dst (N := 3) rfl ?_); refine box_event ?hg (N := 3) ?hd (cs := #[.bool a1_0, .slice A1_1 l1_1.length c1_1]) (t := 25) ?hr ?_; (case hd => rfl); (case hg => rfl); (case hr => first | (go_simp; done) | (go_simp; rfl)); intro gb333 hg w7 hbox hb; have n0_ := Aside0.mk (blk_below (g := gb332) (o := .cells #[.bool a0_0, .slice A0_1 l0_1.length c0_1] 25 (0, 0)) (by (with_reducible repeat (first | refine blk_drewN ?_ _ | refine blk_drew ?_ | refine blk_alloc ?_ _)); exact BK332.out) hb); have n1_ := Aside0.mk (below_step (by repeat (first | (with_reducible first | exact HB.out | apply below_alloc | apply pw_below_drewN | apply below_drew1 | refine below_set ?_ GE332.out) | exact HB.out)) hb); have n2_ := Aside0.mk (hbox); have n3_ := Aside0.mk ((by rw [hg]; exact (below_size (by repeat (first | (with_reducible first | exact HB.out | apply below_alloc | apply pw_below_drewN | apply below_drew1 | refine below_set ?_ GE332.out) | exact HB.out))) : w.heap.size ≤ gb333)); have n4_ := Aside0.mk ((by rw [hg]; exact (below_size (by repeat (first | (with_reducible first | exact HB.out | apply below_alloc | apply pw_below_drewN | apply below_drew1 | refine below_set ?_ GE332.out) | exact HB.out))) : w.heap.size ≤ gb333)); have n5_ := Aside0.mk ((by rw [hg]; exact Nat.ne_of_lt (blk_lt (g := gb332) (o := .cells #[.bool a0_0, .slice A0_1 l0_1.length c0_1] 25 (0, 0)) (by (with_reducible repeat (first | refine blk_drewN ?_ _ | refine blk_drew ?_ | refine blk_alloc ?_ _)); exact BK332.out)) : gb332 ≠ gb333)); have n6_ := Aside0.mk ((by rw [hg]; exact Nat.ne_of_gt (blk_lt (g := gb332) (o := .cells #[.bool a0_0, .slice A0_1 l0_1.length c0_1] 25 (0, 0)) (by (with_reducible repeat (first | refine blk_drewN ?_ _ | refine blk_drew ?_ | refine blk_alloc ?_ _)); exact BK332.out)) : gb333 ≠ gb332)); clear BK332; clear HB; have BK332 := n0_; have HB := n1_; have BK333 := n2_; have GW333 := n3_; have GE333 := n4_; have NB332_333 := n5_; have NB333_332 := n6_; clear n0_ n1_ n2_ n3_ n4_ n5_ n6_; clear hb hbox hg) | ((with_reducible refine gate_dst (N := 4) rfl ?_); refine box_event ?hg (N := 4) ?hd (cs := #[.bool false, .slice none 0 0]) (t := 25) ?hr ?_; (case hd => rfl); (case hg => rfl); (case hr => first | (go_simp; done) | (go_simp; rfl)); intro gb334 hg w8 hbox hb; have n0_ := Aside0.mk (blk_below (g := gb332) (o := .cells #[.bool a0_0, .slice A0_1 l0_1.length c0_1] 25 (0, 0)) (by (with_reducible repeat (first | refine blk_drewN ?_ _ | refine blk_drew ?_ | refine blk_alloc ?_ _)); exact BK332.out) hb); have n1_ := Aside0.mk (blk_below (g := gb333) (o := .cells #[.bool a1_0, .slice A1_1 l1_1.length c1_1] 25 (0, 0)) (by (with_reducible repeat (first | refine blk_drewN ?_ _ | refine blk_drew ?_ | refine blk_alloc ?_ _)); exact BK333.out) hb); have n2_ := Aside0.mk (below_step (by repeat (first | (with_reducible first | exact HB.out | apply below_alloc | apply pw_below_drewN | apply below_drew1 | refine below_set ?_ GE332.out | refine below_set ?_ GE333.out) | exact HB.out)) hb); have n3_ := Aside0.mk (hbox); have n4_ := Aside0.mk ((by rw [hg]; exact (below_size (by repeat (first | (with_reducible first | exact HB.out | apply below_alloc | apply pw_below_drewN | apply below_drew1 | refine below_set ?_ GE332.out | refine below_set ?_ GE333.out) | exact HB.out))) : w.heap.size ≤ gb334)); have n5_ := Aside0.mk ((by rw [hg]; exact (below_size (by repeat (first | (with_reducible first | exact HB.out | apply below_alloc | apply pw_below_drewN | apply below_drew1 | refine below_set ?_ GE332.out | refine below_set ?_ GE333.out) | exact HB.out))) : w.heap.size ≤ gb334)); have n6_ := Aside0.mk ((by rw [hg]; exact Nat.ne_of_lt (blk_lt (g := gb332) (o := .cells #[.bool a0_0, .slice A0_1 l0_1.length c0_1] 25 (0, 0)) (by (with_reducible repeat (first | refine blk_drewN ?_ _ | refine blk_drew ?_ | refine blk_alloc ?_ _)); exact BK332.out)) : gb332 ≠ gb334)); have n7_ := Aside0.mk ((by rw [hg]; exact Nat.ne_of_gt (blk_lt (g := gb332) (o := .cells #[.bool a0_0, .slice A0_1 l0_1.length c0_1] 25 (0, 0)) (by (with_reducible repeat (first | refine blk_drewN ?_ _ | refine blk_drew ?_ | refine blk_alloc ?_ _)); exact BK332.out)) : gb334 ≠ gb332)); have n8_ := Aside0.mk ((by rw [hg]; exact Nat.ne_of_lt (blk_lt (g := gb333) (o := .cells #[.bool a1_0, .slice A1_1 l1_1.length c1_1] 25 (0, 0)) (by (with_reducible repeat (first | refine blk_drewN ?_ _ | refine blk_drew ?_ | refine blk_alloc ?_ _)); exact BK333.out)) : gb333 ≠ gb334)); have n9_ := Aside0.mk ((by rw [hg]; exact Nat.ne_of_gt (blk_lt (g := gb333) (o := .cells #[.bool a1_0, .slice A1_1 l1_1.length c1_1] 25 (0, 0)) (by (with_reducible repeat (first | refine blk_drewN ?_ _ | refine blk_drew ?_ | refine blk_alloc ?_ _)); exact BK333.out)) : gb334 ≠ gb333)); clear BK332; clear BK333; clear HB; have BK332 := n0_; have BK333 := n1_; have HB := n2_; have BK334 := n3_; have GW334 := n4_; have GE334 := n5_; have NB332_334 := n6_; have NB334_332 := n7_; have NB333_334 := n8_; have NB334_333 := n9_; clear n0_ n1_ n2_ n3_ n4_ n5_ n6_ n7_ n8_ n9_; clear hb hbox hg; have hnb9 := NB332_333.out; have hnc9 := NB333_332.out; have hnb10 := NB332_334.out; have hnc10 := NB334_332.out; have hcz11_0 : w8.cell? ⟨gb332, 0, none⟩ = some (.bool a0_0) := (blk_cell BK332.out 0).trans rfl; have hcz11_1 : w8.cell? ⟨gb332, 1, none⟩ = some (.slice A0_1 l0_1.length c0_1) := (blk_cell BK332.out 1).trans rfl; have hfz11_0 := blk_frozen BK332.out 0; have hfz11_1 := blk_frozen BK332.out 1; have hnb12 := NB333_334.out; have hnc12 := NB334_333.out; have hcz13_0 : w8.cell? ⟨gb333, 0, none⟩ = some (.bool a1_0) := (blk_cell BK333.out 0).trans rfl; have hcz13_1 : w8.cell? ⟨gb333, 1, none⟩ = some (.slice A1_1 l1_1.length c1_1) := (blk_cell BK333.out 1).trans rfl; have hfz13_0 := blk_frozen BK333.out 0; have hfz13_1 := blk_frozen BK333.out 1) | ((with_reducible refine gate_dst (N := 18) rfl ?_); refine Kd.R_make (Kd.int .u32) _ 60 rfl (N := 18) rfl 23 _ _ rfl ji3 rfl rfl Tryd.underlying23 (.int .u32 0) 4 info60 rfl (by decide) (by omega) 0 (ok := fun _ => True) (okp := fun _ => True) rfl (fun _ hk => hk) trivial (of_decide_eq_true (by assumption)) (Nat.le_trans (Nat.mul_le_mul_right _ (of_decide_eq_true (by assumption) : ji3.toNat ≤ 70368744177664)) (by omega)) (Below.refl _ _) (Nat.le_refl _) ?_; intro v336 w14 ho15 hb hg_ hnew_; clear hg_ hnew_; (first | rw [← Ny335.out] at ho15 | (simp only [Int.reduceToNat] at ho15; rw [← Ny335.out] at ho15)); have n0_ := Aside0.mk (Kd.R_lower (Kd.R_newM (M := fun k_ => (w.heap.size ≤ k_)) ho15 (below_size (by repeat (first | (with_reducible first | exact HB.out | apply below_alloc | apply pw_below_drewN | apply below_drew1 | refine below_set ?_ GE332.out | refine below_set ?_ GE333.out | refine below_set ?_ GE334.out) | exact HB.out))) (fun k_ h_ => h_)) (below_size (by repeat (first | (with_reducible first | exact HB.out | apply below_alloc | apply pw_below_drewN | apply below_drew1 | refine below_set ?_ GE332.out | refine below_set ?_ GE333.out | refine below_set ?_ GE334.out) | exact HB.out)))); have n1_ := Aside0.mk (blk_below (g := gb332) (o := .cells #[.bool a0_0, .slice A0_1 l0_1.length c0_1] 25 (0, 0)) (by (with_reducible repeat (first | refine blk_drewN ?_ _ | refine blk_drew ?_ | refine blk_alloc ?_ _)); exact BK332.out) hb); have n2_ := Aside0.mk (blk_below (g := gb333) (o := .cells #[.bool a1_0, .slice A1_1 l1_1.length c1_1] 25 (0, 0)) (by (with_reducible repeat (first | refine blk_drewN ?_ _ | refine blk_drew ?_ | refine blk_alloc ?_ _)); exact BK333.out) hb); have n3_ := Aside0.mk (blk_below (g := gb334) (o := .cells #[.bool false, .slice none 0 0] 25 (0, 0)) (by (with_reducible repeat (first | refine blk_drewN ?_ _ | refine blk_drew ?_ | refine blk_alloc ?_ _)); exact BK334.out) hb); have n4_ := Aside0.mk (below_step (by repeat (first | (with_reducible first | exact HB.out | apply below_alloc | apply pw_below_drewN | apply below_drew1 | refine below_set ?_ GE332.out | refine below_set ?_ GE333.out | refine below_set ?_ GE334.out) | exact HB.out)) hb); clear BK332; clear BK333; clear BK334; clear HB; have HO337 := n0_; have BK332 := n1_; have BK333 := n2_; have BK334 := n3_; have HB := n4_; clear n0_ n1_ n2_ n3_ n4_; clear hb ho15; have hcz16_0 : w14.cell? ⟨gb332, 0, none⟩ = some (.bool a0_0) := (blk_cell BK332.out 0).trans rfl; have hcz16_1 : w14.cell? ⟨gb332, 1, none⟩ = some (.slice A0_1 l0_1.length c0_1) := (blk_cell BK332.out 1).trans rfl; have hfz16_0 := blk_frozen BK332.out 0; have hfz16_1 := blk_frozen BK332.out 1))
   go_loopg [22] k (fun kq v22 w' => ∃ (x5_1 : List Int) (x22_1 : Int), v22 = .int .i64 x22_1 ∧ Aside0 (integer_Mul.l0 kq x5_1 l0_1 (l0_1.length : Int) x22_1 a0_0 l0_1 a1_0 l1_1 = some (r1, r2)) ∧ Aside0 (kq ≤ k) ∧ Aside0 (Kd.R (Kd.int .u32) 60 w' w.heap.size (fun k_ => (w.heap.size ≤ k_)) v336 x5_1) ∧ Aside0 (w'.heap[gb332]? = some (.cells #[.bool a0_0, (.slice A0_1 l0_1.length c0_1)] 25 (0, 0))) ∧ Aside0 (w'.heap[gb333]? = some (.cells #[.bool a1_0, (.slice A1_1 l1_1.length c1_1)] 25 (0, 0))) ∧ Aside0 (w'.heap[gb334]? = some (.cells #[.bool false, (.slice none 0 0)] 25 (0, 0))) ∧ Aside0 (Below w.heap.size w w'))
   case atStart => exact ⟨(y335), (0), (by first | rfl | (simp; done) | (simp [*]; done) | (simp <;> omega)), H', ⟨Nat.le_refl _⟩, ⟨by (with_reducible repeat (first | apply Kd.R_alloc | apply Kd.R_drewN | apply Kd.R_drew)); exact Kd.R_mono HO337.out (fun _ hk => hk.1)⟩, ⟨by (with_reducible repeat (first | refine blk_drewN ?_ _ | refine blk_drew ?_ | refine blk_alloc ?_ _)); exact BK332.out⟩, ⟨by (with_reducible repeat (first | refine blk_drewN ?_ _ | refine blk_drew ?_ | refine blk_alloc ?_ _)); exact BK333.out⟩, ⟨by (with_reducible repeat (first | refine blk_drewN ?_ _ | refine blk_drew ?_ | refine blk_alloc ?_ _)); exact BK334.out⟩, ⟨by repeat (first | (with_reducible first | exact HB.out | apply below_alloc | apply pw_below_drewN | apply below_drew1 | refine below_set ?_ GE332.out | refine below_set ?_ GE333.out | refine below_set ?_ GE334.out) | exact HB.out)⟩⟩
   case round =>
    clear H'
    try clear c1
    try clear c2
    try clear p2
    try clear c4
    try clear c4b0
    try clear c4b1
    try clear c5
    try clear c5b0
    try clear c5b1
    try clear p6
    try clear c9
    try clear c10
    try clear c12
    try clear hcz11_0
    try clear hcz11_1
    try clear hcz13_0
    try clear hcz13_1
    try clear hcz16_0
    try clear hcz16_1
    try clear hfz11_0
    try clear hfz11_1
    try clear hfz13_0
    try clear hfz13_1
    try clear hfz16_0
    try clear hfz16_1
    obtain ⟨x5_1, x22_1, rfl, HA, HK1, HO_5, BK332, BK333, BK334, HB⟩ := hrel
    cases gk with
    | zero => exact absurd HA.out (by simp [integer_Mul.l0])
    | succ k1 =>
     have H := HA.out
     clear HA
     simp only [integer_Mul.l0] at H
     by_cases c17 : x22_1 < (l0_1.length : Int)
     ·
      rw [if_pos c17] at H
      have c17b0 : decide (x22_1 < (l0_1.length : Int)) = true := decide_eq_true c17
      clear c17
      by_cases c18 : 0 ≤ x22_1
      ·
       rw [if_pos c18] at H
       have c18b0 : decide (0 ≤ x22_1) = true := decide_eq_true c18
       clear c18
       by_cases c19 : x22_1 < (l0_1.length : Int)
       ·
        rw [if_pos c19] at H
        have c19b0 : decide (x22_1 < (l0_1.length : Int)) = true := decide_eq_true c19
        clear c19
        have H' := Aside0.mk H
        clear H
        have p342 : 0 ≤ (x22_1 : Int) := of_decide_eq_true (by assumption)
        have q342 : x22_1 < (l0_1.length : Int) := of_decide_eq_true (by assumption)
        obtain ⟨ad342, e342, hx342_0⟩ := Kd.at_int HR0_1.out x22_1 p342 q342
        cases e342
        replace hx342_0 := (HB.out.cell (World.block_lt_of_cell? w _ hx342_0)).trans hx342_0
        replace p342 := eq_true p342
        replace q342 := eq_true q342
        have hnb20 := NB333_332.out
        have hnc20 := NB332_333.out
        have hnb21 := NB333_334.out
        have hnc21 := NB334_333.out
        have hcz22_0 : wr.cell? ⟨gb333, 0, none⟩ = some (.bool a1_0) := (blk_cell BK333.out 0).trans rfl
        have hcz22_1 : wr.cell? ⟨gb333, 1, none⟩ = some (.slice A1_1 l1_1.length c1_1) := (blk_cell BK333.out 1).trans rfl
        have hfz22_0 := blk_frozen BK333.out 0
        have hfz22_1 := blk_frozen BK333.out 1
        go_wp2
        go_loopg [8, 30] k1 (fun kq v8 v30 w' => ∃ (x5_2 : List Int) (x8_2 : Int) (x30_2 : Int), v8 = .int .u64 x8_2 ∧ v30 = .int .i64 x30_2 ∧ Aside0 (integer_Mul.l1 kq x5_2 x22_1 (rd l0_1 x22_1) x8_2 l0_1 (l0_1.length : Int) x22_1 l1_1 (l1_1.length : Int) x30_2 a0_0 l0_1 a1_0 l1_1 = some (r1, r2)) ∧ Aside0 (kq ≤ k1) ∧ Aside0 (Kd.R (Kd.int .u32) 60 w' w.heap.size (fun k_ => (w.heap.size ≤ k_)) v336 x5_2) ∧ Aside0 (w'.heap[gb332]? = some (.cells #[.bool a0_0, (.slice (some ad342) l0_1.length c0_1)] 25 (0, 0))) ∧ Aside0 (w'.heap[gb333]? = some (.cells #[.bool a1_0, (.slice A1_1 l1_1.length c1_1)] 25 (0, 0))) ∧ Aside0 (w'.heap[gb334]? = some (.cells #[.bool false, (.slice none 0 0)] 25 (0, 0))) ∧ Aside0 (Below w.heap.size w w'))
        case atStart => exact ⟨(x5_1), (0), (0), (by first | rfl | (simp; done) | (simp [*]; done) | (simp <;> omega)), (by first | rfl | (simp; done) | (simp [*]; done) | (simp <;> omega)), H', ⟨Nat.le_refl _⟩, ⟨by (with_reducible repeat (first | apply Kd.R_alloc | apply Kd.R_drewN | apply Kd.R_drew)); exact HO_5.out⟩, ⟨by (with_reducible repeat (first | refine blk_drewN ?_ _ | refine blk_drew ?_ | refine blk_alloc ?_ _)); exact BK332.out⟩, ⟨by (with_reducible repeat (first | refine blk_drewN ?_ _ | refine blk_drew ?_ | refine blk_alloc ?_ _)); exact BK333.out⟩, ⟨by (with_reducible repeat (first | refine blk_drewN ?_ _ | refine blk_drew ?_ | refine blk_alloc ?_ _)); exact BK334.out⟩, ⟨by repeat (first | (with_reducible first | exact HB.out | apply below_alloc | apply pw_below_drewN | apply below_drew1 | refine below_set ?_ GE332.out | refine below_set ?_ GE333.out | refine below_set ?_ GE334.out) | exact HB.out)⟩⟩
        case round =>
         clear H'
         try clear c1
         try clear c2
         try clear p2
         try clear p3
         try clear q3
         try clear hx3
         try clear c4
         try clear c4b0
         try clear c4b1
         try clear c5
         try clear c5b0
         try clear c5b1
         try clear p6
         try clear c9
         try clear c10
         try clear c12
         try clear c17
         try clear c17b0
         try clear c18
         try clear c18b0
         try clear c19
         try clear c19b0
         try clear c20
         try clear c21
         try clear hcz11_0
         try clear hcz11_1
         try clear hcz13_0
         try clear hcz13_1
         try clear hcz16_0
         try clear hcz16_1
         try clear hcz22_0
         try clear hcz22_1
         try clear hfz11_0
         try clear hfz11_1
         try clear hfz13_0
         try clear hfz13_1
         try clear hfz16_0
         try clear hfz16_1
         try clear hfz22_0
         try clear hfz22_1
         try clear hx342_0
         try clear p2
         try clear p342
         try clear p6
         try clear q342
         obtain ⟨x5_2, x8_2, x30_2, rfl, rfl, HA, HK2, HO_5, BK332, BK333, BK334, HB⟩ := hrel
         cases gk with
         | zero => exact absurd HA.out (by simp [integer_Mul.l1])
         | succ k2 =>
          have H := HA.out
          clear HA
          simp only [integer_Mul.l1] at H
          by_cases c23 : x30_2 < (l1_1.length : Int)
          ·
           rw [if_pos c23] at H
           have c23b0 : decide (x30_2 < (l1_1.length : Int)) = true := decide_eq_true c23
           clear c23
           by_cases c24 : 0 ≤ x30_2
           ·
            rw [if_pos c24] at H
            have c24b0 : decide (0 ≤ x30_2) = true := decide_eq_true c24
            clear c24
            by_cases c25 : x30_2 < (l1_1.length : Int)
            ·
             rw [if_pos c25] at H
             have c25b0 : decide (x30_2 < (l1_1.length : Int)) = true := decide_eq_true c25
             clear c25
             obtain ⟨ji26, hji26⟩ : ∃ j_ : Int, (wrap64 (x22_1 + x30_2)) = j_ := ⟨_, rfl⟩
             replace H : (if 0 ≤ (ji26) then (if (ji26) < (x5_2.length : Int) then (integer_Mul.l1 k2 (x5_2.set ((ji26) : Int).toNat ((IntKind.u64.wrap (x8_2 + (IntKind.u64.wrap ((IntKind.u64.wrap ((IntKind.u64.wrap ((rd l0_1 x22_1))) * (IntKind.u64.wrap (rd l1_1 x30_2)))) + (IntKind.u64.wrap (rd x5_2 (ji26))))))) % 4294967296)) x22_1 (rd l0_1 x22_1) ((IntKind.u64.wrap (x8_2 + (IntKind.u64.wrap ((IntKind.u64.wrap ((IntKind.u64.wrap ((rd l0_1 x22_1))) * (IntKind.u64.wrap (rd l1_1 x30_2)))) + (IntKind.u64.wrap (rd x5_2 (ji26))))))) / 4294967296) l0_1 (l0_1.length : Int) x22_1 l1_1 (l1_1.length : Int) (wrap64 (x30_2 + 1)) a0_0 l0_1 a1_0 l1_1) else (none)) else (none)) = some (r1, r2) := by first | (rw [hji26] at H; exact H) | (simp only [hji26] at H ⊢; exact H)
             have hji26w : (IntKind.i64.wrap (x22_1 + x30_2)) = ji26 := (i64_w _).trans hji26
             by_cases c27 : 0 ≤ (ji26)
             ·
              rw [if_pos c27] at H
              have c27b0 : decide (0 ≤ (ji26)) = true := decide_eq_true c27
              clear c27
              by_cases c28 : (ji26) < (x5_2.length : Int)
              ·
               rw [if_pos c28] at H
               have c28b0 : decide ((ji26) < (x5_2.length : Int)) = true := decide_eq_true c28
               clear c28
               obtain ⟨y345, hy345⟩ : ∃ y_ : List Int, y_ = (x5_2.set ((ji26) : Int).toNat ((IntKind.u64.wrap (x8_2 + (IntKind.u64.wrap ((IntKind.u64.wrap ((IntKind.u64.wrap ((rd l0_1 x22_1))) * (IntKind.u64.wrap (rd l1_1 x30_2)))) + (IntKind.u64.wrap (rd x5_2 (ji26))))))) % 4294967296)) := ⟨_, rfl⟩
               replace H : (integer_Mul.l1 k2 y345 x22_1 (rd l0_1 x22_1) ((IntKind.u64.wrap (x8_2 + (IntKind.u64.wrap ((IntKind.u64.wrap ((IntKind.u64.wrap ((rd l0_1 x22_1))) * (IntKind.u64.wrap (rd l1_1 x30_2)))) + (IntKind.u64.wrap (rd x5_2 (ji26))))))) / 4294967296) l0_1 (l0_1.length : Int) x22_1 l1_1 (l1_1.length : Int) (wrap64 (x30_2 + 1)) a0_0 l0_1 a1_0 l1_1) = some (r1, r2) := by first | (rw [hy345]; with_reducible exact H) | (have H2_ := (Option.bind_some _ _).symm.trans H; rw [hy345]; with_reducible exact H2_) | (have H2_ := (Option.bind_some _ _).symm.trans H; with_reducible exact H2_) | with_reducible exact H | (rw [hy345]; exact H) | exact H
               have Ny345 := Aside0.mk hy345
               clear hy345
               have H' := Aside0.mk H
               clear H
               have p343 : 0 ≤ (x30_2 : Int) := of_decide_eq_true (by assumption)
               have q343 : x30_2 < (l1_1.length : Int) := of_decide_eq_true (by assumption)
               obtain ⟨ad343, e343, hx343_0⟩ := Kd.at_int HR1_1.out x30_2 p343 q343
               cases e343
               replace hx343_0 := (HB.out.cell (World.block_lt_of_cell? w _ hx343_0)).trans hx343_0
               replace p343 := eq_true p343
               replace q343 := eq_true q343
               obtain ⟨Ao30, co30, eo30⟩ := Kd.R_slice HO_5.out
               subst eo30
               have p344 : 0 ≤ ((ji26) : Int) := of_decide_eq_true (by assumption)
               have q344 : (ji26) < (x5_2.length : Int) := of_decide_eq_true (by assumption)
               obtain ⟨ad344, e344, hx344_0⟩ := Kd.at_int (Kd.R_reads' HO_5.out).2.2 (ji26) p344 q344
               cases e344
               replace p344 := eq_true p344
               replace q344 := eq_true q344
               have p29 : 0 ≤ ((ji26) : Int) := of_decide_eq_true (by assumption)
               have q29 : ((ji26) : Int) < ((x5_2.length : Int) : Int) := of_decide_eq_true (by assumption)
               obtain ⟨go29, co29, eo29, gb29, gl29, cl29, HG29⟩ := Kd.R_form HO_5.out (by omega)
               (first | cases eo29 | (injection eo29 with ea_ en_ ec_; (first | subst ea_ | (injection ea_ with ea_; subst ea_)); subst ec_; clear en_))
               have GB29 := Aside0.mk gb29
               have GG29 := Aside0.mk HG29
               clear gb29 gl29 HG29
               (first | simp only [add_plain] at hx344_0 | skip)
               obtain ⟨hx29_0, hf29_0⟩ := Kd.R_celln 0 HO_5.out ((ji26) : Int) p29 q29
               replace p29 := eq_true p29
               replace q29 := eq_true q29
               have HP31 := Kd.R_putg HO_5.out ((ji26) : Int) ((IntKind.u64.wrap (x8_2 + (IntKind.u64.wrap ((IntKind.u64.wrap ((IntKind.u64.wrap ((rd l0_1 x22_1))) * (IntKind.u64.wrap (rd l1_1 x30_2)))) + (IntKind.u64.wrap (rd x5_2 (ji26))))))) % 4294967296)
               go_wp2_with (first | ((with_reducible refine gate_store (t := 60) (p := 56) rfl ?_); refine store_event (t := 60) (p := 56) (v := ?vo_w32) (w1 := (wr.setCell ⟨go29, ((ji26) : Int).toNat, none⟩ (.int .u32 ((IntKind.u64.wrap (x8_2 + (IntKind.u64.wrap ((IntKind.u64.wrap ((IntKind.u64.wrap ((rd l0_1 x22_1))) * (IntKind.u64.wrap (rd l1_1 x30_2)))) + (IntKind.u64.wrap (rd x5_2 (ji26))))))) % 4294967296)))) ?hg ?ho ?hn ?hr ?_; (case ho => rfl); (case hg => rfl); (case hn => rfl); (case hr => first | (go_simp; done) | (go_simp; rfl)); intro w32 hw; have hg : wr.grownBy w32 (some go29) := (by rw [hw]; exact HP31.2); have hp_ : Kd.R (Kd.int .u32) 60 w32 w.heap.size (fun k_ => (w.heap.size ≤ k_)) (.slice (some ⟨go29, 0, none⟩) x5_2.length co30) y345 := (by rw [hw, Ny345.out]; exact HP31.1); clear HP31; have n0_ := Aside0.mk (hp_); have n1_ := Aside0.mk (blk_grown (g := gb332) (o := .cells #[.bool a0_0, .slice (some ad342) l0_1.length c0_1] 25 (0, 0)) (by (with_reducible repeat (first | refine blk_drewN ?_ _ | refine blk_drew ?_ | refine blk_alloc ?_ _)); exact BK332.out) hg (Kd.R_ne HO_5.out BK332.out (by decide))); have n2_ := Aside0.mk (blk_grown (g := gb333) (o := .cells #[.bool a1_0, .slice (some ad343) l1_1.length c1_1] 25 (0, 0)) (by (with_reducible repeat (first | refine blk_drewN ?_ _ | refine blk_drew ?_ | refine blk_alloc ?_ _)); exact BK333.out) hg (Kd.R_ne HO_5.out BK333.out (by decide))); have n3_ := Aside0.mk (blk_grown (g := gb334) (o := .cells #[.bool false, .slice none 0 0] 25 (0, 0)) (by (with_reducible repeat (first | refine blk_drewN ?_ _ | refine blk_drew ?_ | refine blk_alloc ?_ _)); exact BK334.out) hg (Kd.R_ne HO_5.out BK334.out (by decide))); have n4_ := Aside0.mk ((by rw [hw]; exact below_set (HB.out) GB29.out : Below w.heap.size w w32)); clear HO_5; clear BK332; clear BK333; clear BK334; clear HB; have HO_5 := n0_; have BK332 := n1_; have BK333 := n2_; have BK334 := n3_; have HB := n4_; clear n0_ n1_ n2_ n3_ n4_; clear hg hw hp_))
               go_roundg k2
               case measure => have := HK1.out; have := HK2.out; omega
               case rel => exact ⟨(y345), ((IntKind.u64.wrap (x8_2 + (IntKind.u64.wrap ((IntKind.u64.wrap ((IntKind.u64.wrap ((rd l0_1 x22_1))) * (IntKind.u64.wrap (rd l1_1 x30_2)))) + (IntKind.u64.wrap (rd x5_2 (ji26))))))) / 4294967296), (wrap64 (x30_2 + 1)), (by first | rfl | (simp; done) | (simp only [← hji26] <;> (first | rfl | simp)) | (simp [*]; done)), (by first | rfl | (simp; done) | (simp [*]; done) | (simp <;> omega)), H', ⟨by have := HK1.out; have := HK2.out; omega⟩, ⟨by (with_reducible repeat (first | apply Kd.R_alloc | apply Kd.R_drewN | apply Kd.R_drew)); exact HO_5.out⟩, ⟨by (with_reducible repeat (first | refine blk_drewN ?_ _ | refine blk_drew ?_ | refine blk_alloc ?_ _)); exact BK332.out⟩, ⟨by (with_reducible repeat (first | refine blk_drewN ?_ _ | refine blk_drew ?_ | refine blk_alloc ?_ _)); exact BK333.out⟩, ⟨by (with_reducible repeat (first | refine blk_drewN ?_ _ | refine blk_drew ?_ | refine blk_alloc ?_ _)); exact BK334.out⟩, ⟨by repeat (first | (with_reducible first | exact HB.out | apply below_alloc | apply pw_below_drewN | apply below_drew1 | refine below_set ?_ GE332.out | refine below_set ?_ GE333.out | refine below_set ?_ GE334.out) | exact HB.out)⟩⟩
              ·
               rw [if_neg c28] at H
               exact absurd H (by simp)
             ·
              rw [if_neg c27] at H
              exact absurd H (by simp)
            ·
             rw [if_neg c25] at H
             exact absurd H (by simp)
           ·
            rw [if_neg c24] at H
            exact absurd H (by simp)
          ·
           rw [if_neg c23] at H
           have c23b0 : decide (x30_2 < (l1_1.length : Int)) = false := decide_eq_false c23
           clear c23
           obtain ⟨ji33, hji33⟩ : ∃ j_ : Int, (wrap64 (x22_1 + (l1_1.length : Int))) = j_ := ⟨_, rfl⟩
           replace H : (if 0 ≤ (ji33) then (if (ji33) < (x5_2.length : Int) then (integer_Mul.l0 k2 (x5_2.set ((ji33) : Int).toNat ((x8_2) % 4294967296)) l0_1 (l0_1.length : Int) (wrap64 (x22_1 + 1)) a0_0 l0_1 a1_0 l1_1) else (none)) else (none)) = some (r1, r2) := by first | (rw [hji33] at H; exact H) | (simp only [hji33] at H ⊢; exact H)
           have hji33w : (IntKind.i64.wrap (x22_1 + (l1_1.length : Int))) = ji33 := (i64_w _).trans hji33
           by_cases c34 : 0 ≤ (ji33)
           ·
            rw [if_pos c34] at H
            have c34b0 : decide (0 ≤ (ji33)) = true := decide_eq_true c34
            clear c34
            by_cases c35 : (ji33) < (x5_2.length : Int)
            ·
             rw [if_pos c35] at H
             have c35b0 : decide ((ji33) < (x5_2.length : Int)) = true := decide_eq_true c35
             clear c35
             obtain ⟨y346, hy346⟩ : ∃ y_ : List Int, y_ = (x5_2.set ((ji33) : Int).toNat ((x8_2) % 4294967296)) := ⟨_, rfl⟩
             replace H : (integer_Mul.l0 k2 y346 l0_1 (l0_1.length : Int) (wrap64 (x22_1 + 1)) a0_0 l0_1 a1_0 l1_1) = some (r1, r2) := by first | (rw [hy346]; with_reducible exact H) | (have H2_ := (Option.bind_some _ _).symm.trans H; rw [hy346]; with_reducible exact H2_) | (have H2_ := (Option.bind_some _ _).symm.trans H; with_reducible exact H2_) | with_reducible exact H | (rw [hy346]; exact H) | exact H
             have Ny346 := Aside0.mk hy346
             clear hy346
             have H' := Aside0.mk H
             clear H
             have hnb37 := NB333_332.out
             have hnc37 := NB332_333.out
             have hnb38 := NB333_334.out
             have hnc38 := NB334_333.out
             have hcz39_0 : wr.cell? ⟨gb333, 0, none⟩ = some (.bool a1_0) := (blk_cell BK333.out 0).trans rfl
             have hcz39_1 : wr.cell? ⟨gb333, 1, none⟩ = some (.slice A1_1 l1_1.length c1_1) := (blk_cell BK333.out 1).trans rfl
             have hfz39_0 := blk_frozen BK333.out 0
             have hfz39_1 := blk_frozen BK333.out 1
             have p36 : 0 ≤ ((ji33) : Int) := of_decide_eq_true (by assumption)
             have q36 : ((ji33) : Int) < ((x5_2.length : Int) : Int) := of_decide_eq_true (by assumption)
             obtain ⟨go36, co36, eo36, gb36, gl36, cl36, HG36⟩ := Kd.R_form HO_5.out (by omega)
             (first | cases eo36 | (injection eo36 with ea_ en_ ec_; (first | subst ea_ | (injection ea_ with ea_; subst ea_)); subst ec_; clear en_))
             have GB36 := Aside0.mk gb36
             have GG36 := Aside0.mk HG36
             clear gb36 gl36 HG36
             obtain ⟨hx36_0, hf36_0⟩ := Kd.R_celln 0 HO_5.out ((ji33) : Int) p36 q36
             replace p36 := eq_true p36
             replace q36 := eq_true q36
             have HP40 := Kd.R_putg HO_5.out ((ji33) : Int) ((x8_2) % 4294967296)
             go_wp2_with (first | ((with_reducible refine gate_store (t := 60) (p := 68) rfl ?_); refine store_event (t := 60) (p := 68) (v := ?vo_w41) (w1 := (wr.setCell ⟨go36, ((ji33) : Int).toNat, none⟩ (.int .u32 ((x8_2) % 4294967296)))) ?hg ?ho ?hn ?hr ?_; (case ho => rfl); (case hg => rfl); (case hn => rfl); (case hr => first | (go_simp; done) | (go_simp; rfl)); intro w41 hw; have hg : wr.grownBy w41 (some go36) := (by rw [hw]; exact HP40.2); have hp_ : Kd.R (Kd.int .u32) 60 w41 w.heap.size (fun k_ => (w.heap.size ≤ k_)) (.slice (some ⟨go36, 0, none⟩) x5_2.length co36) y346 := (by rw [hw, Ny346.out]; exact HP40.1); clear HP40; have n0_ := Aside0.mk (hp_); have n1_ := Aside0.mk (blk_grown (g := gb332) (o := .cells #[.bool a0_0, .slice (some ad342) l0_1.length c0_1] 25 (0, 0)) (by (with_reducible repeat (first | refine blk_drewN ?_ _ | refine blk_drew ?_ | refine blk_alloc ?_ _)); exact BK332.out) hg (Kd.R_ne HO_5.out BK332.out (by decide))); have n2_ := Aside0.mk (blk_grown (g := gb333) (o := .cells #[.bool a1_0, .slice A1_1 l1_1.length c1_1] 25 (0, 0)) (by (with_reducible repeat (first | refine blk_drewN ?_ _ | refine blk_drew ?_ | refine blk_alloc ?_ _)); exact BK333.out) hg (Kd.R_ne HO_5.out BK333.out (by decide))); have n3_ := Aside0.mk (blk_grown (g := gb334) (o := .cells #[.bool false, .slice none 0 0] 25 (0, 0)) (by (with_reducible repeat (first | refine blk_drewN ?_ _ | refine blk_drew ?_ | refine blk_alloc ?_ _)); exact BK334.out) hg (Kd.R_ne HO_5.out BK334.out (by decide))); have n4_ := Aside0.mk ((by rw [hw]; exact below_set (HB.out) GB36.out : Below w.heap.size w w41)); clear HO_5; clear BK332; clear BK333; clear BK334; clear HB; have HO_5 := n0_; have BK332 := n1_; have BK333 := n2_; have BK334 := n3_; have HB := n4_; clear n0_ n1_ n2_ n3_ n4_; clear hg hw hp_))
             go_roundg k2
             case measure => have := HK1.out; have := HK2.out; omega
             case rel => exact ⟨(y346), (wrap64 (x22_1 + 1)), (by first | rfl | (simp; done) | (simp [*]; done) | (simp <;> omega)), H', ⟨by have := HK1.out; have := HK2.out; omega⟩, ⟨by (with_reducible repeat (first | apply Kd.R_alloc | apply Kd.R_drewN | apply Kd.R_drew)); exact HO_5.out⟩, ⟨by (with_reducible repeat (first | refine blk_drewN ?_ _ | refine blk_drew ?_ | refine blk_alloc ?_ _)); exact BK332.out⟩, ⟨by (with_reducible repeat (first | refine blk_drewN ?_ _ | refine blk_drew ?_ | refine blk_alloc ?_ _)); exact BK333.out⟩, ⟨by (with_reducible repeat (first | refine blk_drewN ?_ _ | refine blk_drew ?_ | refine blk_alloc ?_ _)); exact BK334.out⟩, ⟨by repeat (first | (with_reducible first | exact HB.out | apply below_alloc | apply pw_below_drewN | apply below_drew1 | refine below_set ?_ GE332.out | refine below_set ?_ GE333.out | refine below_set ?_ GE334.out) | exact HB.out)⟩⟩
            ·
             rw [if_neg c35] at H
             exact absurd H (by simp)
           ·
            rw [if_neg c34] at H
            exact absurd H (by simp)
       ·
        rw [if_neg c19] at H
        exact absurd H (by simp)
      ·
       rw [if_neg c18] at H
       exact absurd H (by simp)
     ·
      rw [if_neg c17] at H
      have c17b0 : decide (x22_1 < (l0_1.length : Int)) = false := decide_eq_false c17
      clear c17
      replace H := Option.bind_eq_some_iff.mp H
      obtain ⟨⟨t338, t339⟩, A420, H⟩ := H
      replace H : (some (t338, t339)) = some (r1, r2) := H
      have A42 := Aside0.mk A420
      clear A420
      simp only [Option.some.injEq, Prod.mk.injEq] at H
      obtain ⟨rfl, rfl⟩ := H
      have hnb43 := NB332_333.out
      have hnc43 := NB333_332.out
      have hnb44 := NB332_334.out
      have hnc44 := NB334_332.out
      have hcz45_0 : wr.cell? ⟨gb332, 0, none⟩ = some (.bool a0_0) := (blk_cell BK332.out 0).trans rfl
      have hcz45_1 : wr.cell? ⟨gb332, 1, none⟩ = some (.slice A0_1 l0_1.length c0_1) := (blk_cell BK332.out 1).trans rfl
      have hfz45_0 := blk_frozen BK332.out 0
      have hfz45_1 := blk_frozen BK332.out 1
      have hnb46 := NB333_334.out
      have hnc46 := NB334_333.out
      have hcz47_0 : wr.cell? ⟨gb333, 0, none⟩ = some (.bool a1_0) := (blk_cell BK333.out 0).trans rfl
      have hcz47_1 : wr.cell? ⟨gb333, 1, none⟩ = some (.slice A1_1 l1_1.length c1_1) := (blk_cell BK333.out 1).trans rfl
      have hfz47_0 := blk_frozen BK333.out 0
      have hfz47_1 := blk_frozen BK333.out 1
      obtain ⟨Ao48, co48, eo48⟩ := Kd.R_slice HO_5.out
      subst eo48
      go_wp2_with (first | ((with_reducible refine gate_callee (f := 45) rfl ?_); refine goesL_ (some 76) rfl rfl Tryd.func45 (by kernel_rfl) rfl #[.bool (a0_0 != a1_0), .slice Ao48 x5_1.length co48] rfl (by (try simp only [List.map_toArray, List.map_cons, List.map_nil]); first | done | rfl | (simp only [List.length_drop, List.length_take]; rfl)) ?_; (with_reducible refine (integer_signed.calls k1 (a0_0 != a1_0) (fun k_ => some k_ = (.slice Ao48 x5_1.length co48 : Value).ownBlock) _ _ x5_1 t338 t339 _ ?side1 A42.out).mono ?_); (case side1 => exact Kd.R_V (Kd.R_tight rfl (Kd.R_types (Kd.R_types (Kd.R_types (HO_5.out) BK332.out (by decide)) BK333.out (by decide)) BK334.out (by decide)))); rintro e w49 ⟨v340, rfl, ho0, hb⟩; refine ⟨_, rfl, ?_⟩; have n0_ := Aside0.mk (Kd.R_below (by (with_reducible repeat (first | apply Kd.R_alloc | apply Kd.R_drewN | apply Kd.R_drew)); exact HO_5.out) hb); have n1_ := Aside0.mk (Kd.V_lower (Kd.V_mono (ok' := fun k_ => (w.heap.size ≤ k_) ∧ k_ ≠ gb332 ∧ k_ ≠ gb333 ∧ k_ ≠ gb334) ho0 (fun k_ hk_ => ⟨Or.elim hk_ (fun hs_ => ((Kd.R_types (Kd.R_types (Kd.R_types (HO_5.out) BK332.out (by decide)) BK333.out (by decide)) BK334.out (by decide)).1 k_ hs_.symm).1.1.1) (fun hn_ => (Nat.le_trans (below_size (by repeat (first | (with_reducible first | exact HB.out | apply below_alloc | apply pw_below_drewN | apply below_drew1 | refine below_set ?_ GE332.out | refine below_set ?_ GE333.out | refine below_set ?_ GE334.out) | exact HB.out))) hn_)), Or.elim hk_ (fun hs_ => ((Kd.R_types (Kd.R_types (Kd.R_types (HO_5.out) BK332.out (by decide)) BK333.out (by decide)) BK334.out (by decide)).1 k_ hs_.symm).1.1.2) (fun hn_ => (Kd.freshB (g := gb332) (o := .cells #[.bool a0_0, .slice A0_1 l0_1.length c0_1] 25 (0, 0)) (by (with_reducible repeat (first | refine blk_drewN ?_ _ | refine blk_drew ?_ | refine blk_alloc ?_ _)); exact BK332.out) k_ hn_)), Or.elim hk_ (fun hs_ => ((Kd.R_types (Kd.R_types (Kd.R_types (HO_5.out) BK332.out (by decide)) BK333.out (by decide)) BK334.out (by decide)).1 k_ hs_.symm).1.2) (fun hn_ => (Kd.freshB (g := gb333) (o := .cells #[.bool a1_0, .slice A1_1 l1_1.length c1_1] 25 (0, 0)) (by (with_reducible repeat (first | refine blk_drewN ?_ _ | refine blk_drew ?_ | refine blk_alloc ?_ _)); exact BK333.out) k_ hn_)), Or.elim hk_ (fun hs_ => ((Kd.R_types (Kd.R_types (Kd.R_types (HO_5.out) BK332.out (by decide)) BK333.out (by decide)) BK334.out (by decide)).1 k_ hs_.symm).2) (fun hn_ => (Kd.freshB (g := gb334) (o := .cells #[.bool false, .slice none 0 0] 25 (0, 0)) (by (with_reducible repeat (first | refine blk_drewN ?_ _ | refine blk_drew ?_ | refine blk_alloc ?_ _)); exact BK334.out) k_ hn_))⟩)) (below_size (by repeat (first | (with_reducible first | exact HB.out | apply below_alloc | apply pw_below_drewN | apply below_drew1 | refine below_set ?_ GE332.out | refine below_set ?_ GE333.out | refine below_set ?_ GE334.out) | exact HB.out)))); have n2_ := Aside0.mk (blk_below (g := gb332) (o := .cells #[.bool a0_0, .slice A0_1 l0_1.length c0_1] 25 (0, 0)) (by (with_reducible repeat (first | refine blk_drewN ?_ _ | refine blk_drew ?_ | refine blk_alloc ?_ _)); exact BK332.out) hb); have n3_ := Aside0.mk (blk_below (g := gb333) (o := .cells #[.bool a1_0, .slice A1_1 l1_1.length c1_1] 25 (0, 0)) (by (with_reducible repeat (first | refine blk_drewN ?_ _ | refine blk_drew ?_ | refine blk_alloc ?_ _)); exact BK333.out) hb); have n4_ := Aside0.mk (blk_below (g := gb334) (o := .cells #[.bool false, .slice none 0 0] 25 (0, 0)) (by (with_reducible repeat (first | refine blk_drewN ?_ _ | refine blk_drew ?_ | refine blk_alloc ?_ _)); exact BK334.out) hb); have n5_ := Aside0.mk (below_step (by repeat (first | (with_reducible first | exact HB.out | apply below_alloc | apply pw_below_drewN | apply below_drew1 | refine below_set ?_ GE332.out | refine below_set ?_ GE333.out | refine below_set ?_ GE334.out) | exact HB.out)) hb); clear HO_5; clear BK332; clear BK333; clear BK334; clear HB; have HO_5 := n0_; have HO341 := n1_; have BK332 := n2_; have BK333 := n3_; have BK334 := n4_; have HB := n5_; clear n0_ n1_ n2_ n3_ n4_ n5_; (try clear hb); (try clear hb2); (try clear hk); (try clear hi); (try clear ho0); have hcz50_0 : w49.cell? ⟨gb334, 0, none⟩ = some (.bool false) := (blk_cell BK334.out 0).trans rfl; have hcz50_1 : w49.cell? ⟨gb334, 1, none⟩ = some (.slice none 0 0) := (blk_cell BK334.out 1).trans rfl; have hfz50_0 := blk_frozen BK334.out 0; have hfz50_1 := blk_frozen BK334.out 1; obtain ⟨Ao51, co51, eo51⟩ := Kd.V_slice HO341.out; subst eo51))
      refine bodyPost_ret (results_cell_row rfl _ _ gb334 25 #[.bool t338, .slice Ao51 t339.length co51] (0, 0) _ rfl (by (with_reducible repeat (first | refine blk_drewN ?_ _ | refine blk_drew ?_ | refine blk_alloc ?_ _)); refine blk_put (cs := #[.bool t338, .slice none 0 0]) ?_ 1 _ rfl; (with_reducible repeat (first | refine blk_drewN ?_ _ | refine blk_drew ?_ | refine blk_alloc ?_ _)); refine blk_put (cs := #[.bool false, .slice none 0 0]) ?_ 0 _ rfl; (with_reducible repeat (first | refine blk_drewN ?_ _ | refine blk_drew ?_ | refine blk_alloc ?_ _)); exact BK334.out) Tryd.underlying25 rfl (by kernel_rfl)) rfl ?_
      exact ⟨_, by first | rfl | (simp [errW_none, errW_some] <;> rfl) | (simp only [← hji3]; first | rfl | (simp [errW_none, errW_some] <;> rfl)) | (simp [*, errW_none, errW_some] <;> rfl), by (with_reducible repeat (first | apply Kd.V_alloc | apply Kd.V_drewN | apply Kd.V_drew)); exact Kd.V_mono (Kd.V_far (p := ⟨gb334, 1, none⟩) (Kd.V_far (p := ⟨gb334, 0, none⟩) (Kd.V_mono HO341.out (fun k_ hk => (⟨hk, hk.2.2.2⟩ : _ ∧ k_ ≠ gb334))) (fun _ hk => hk.2) (.bool t338)) (fun _ hk => hk.2) (.slice Ao51 t339.length co51)) (fun _ hk => hk.1.1), by repeat (first | (with_reducible first | exact HB.out | apply below_alloc | apply pw_below_drewN | apply below_drew1 | refine below_set ?_ GE332.out | refine below_set ?_ GE333.out | refine below_set ?_ GE334.out) | exact HB.out)⟩
  ·
   rw [if_neg c5] at H
   exact absurd H (by simp)
 ·
  rw [if_neg c4] at H
  exact absurd H (by simp)
mutual
def integer_Power.j0 : Nat → Int → Bool → Bool → List Int → Option (Bool × List Int × Int)
 | 0, _, _, _, _ => none
 | k + 1, x1, x12, x348000, x348001 => if x12 = true then (some (false, ([] : List Int), 2)) else ((integer_From.f k 1).bind fun bt349 => (integer_Power.l0 k x1 0 x348000 x348001 bt349.1 bt349.2))
def integer_Power.l0 : Nat → Int → Int → Bool → List Int → Bool → List Int → Option (Bool × List Int × Int)
 | 0, _, _, _, _, _, _ => none
 | k + 1, x15, x16, x348000, x348001, x354000, x354001 => if x16 < x15 then ((integer_Mul.f k x354000 x354001 x348000 x348001).bind fun bt354 => (integer_Power.l0 k x15 (wrap64 (x16 + 1)) x348000 x348001 bt354.1 bt354.2)) else (some (x354000, x354001, 0))
end
def integer_Power.f (k : Nat) (a0_0 : Bool) (l0_1 : List Int) (a1 : Int) : Option (Bool × List Int × Int) := if a1 < 0 then (integer_Power.j0 k a1 true a0_0 l0_1) else (integer_Power.j0 k a1 (decide (a1 > 64)) a0_0 l0_1)
theorem integer_Power.mono_l : ∀ k, (∀ y0 y1 y2 y3, LeO (integer_Power.j0 k y0 y1 y2 y3) (integer_Power.j0 (k + 1) y0 y1 y2 y3)) ∧ (∀ y0 y1 y2 y3 y4 y5, LeO (integer_Power.l0 k y0 y1 y2 y3 y4 y5) (integer_Power.l0 (k + 1) y0 y1 y2 y3 y4 y5))
 | 0 => ⟨fun _ _ _ _ r h => by simp [integer_Power.j0] at h, fun _ _ _ _ _ _ r h => by simp [integer_Power.l0] at h⟩
 | k + 1 => by
  obtain ⟨ih0, ih1⟩ := integer_Power.mono_l k
  refine ⟨?_, ?_⟩
  ·
   intro y0 y1 y2 y3
   unfold integer_Power.j0
   repeat' first
   | (with_reducible exact ih0 _ _ _ _)
   | (with_reducible exact ih1 _ _ _ _ _ _)
   | (with_reducible exact integer_From.mono _ _)
   | (with_reducible exact integer_Mul.mono _ _ _ _ _)
   | (with_reducible exact LeO.refl _)
   | (with_reducible exact LeO.none _)
   | (with_reducible refine LeO.ite ?_ ?_)
   | (with_reducible refine LeO.bind ?_ (fun _ => ?_))
   | exact ih0 _ _ _ _
   | exact ih1 _ _ _ _ _ _
   | exact integer_From.mono _ _
   | exact integer_Mul.mono _ _ _ _ _
   | exact LeO.none _
   | refine LeO.ite ?_ ?_
   | refine LeO.bind ?_ (fun _ => ?_)
  ·
   intro y0 y1 y2 y3 y4 y5
   unfold integer_Power.l0
   repeat' first
   | (with_reducible exact ih0 _ _ _ _)
   | (with_reducible exact ih1 _ _ _ _ _ _)
   | (with_reducible exact integer_From.mono _ _)
   | (with_reducible exact integer_Mul.mono _ _ _ _ _)
   | (with_reducible exact LeO.refl _)
   | (with_reducible exact LeO.none _)
   | (with_reducible refine LeO.ite ?_ ?_)
   | (with_reducible refine LeO.bind ?_ (fun _ => ?_))
   | exact ih0 _ _ _ _
   | exact ih1 _ _ _ _ _ _
   | exact integer_From.mono _ _
   | exact integer_Mul.mono _ _ _ _ _
   | exact LeO.none _
   | refine LeO.ite ?_ ?_
   | refine LeO.bind ?_ (fun _ => ?_)
theorem integer_Power.mono : ∀ a0 a1 a2 k, LeO (integer_Power.f k a0 a1 a2) (integer_Power.f (k + 1) a0 a1 a2) := by
 intro a0 a1 a2 k
 obtain ⟨ih0, ih1⟩ := integer_Power.mono_l k
 unfold integer_Power.f
 repeat' first
   | (with_reducible exact ih0 _ _ _ _)
   | (with_reducible exact ih1 _ _ _ _ _ _)
   | (with_reducible exact integer_From.mono _ _)
   | (with_reducible exact integer_Mul.mono _ _ _ _ _)
   | (with_reducible exact LeO.refl _)
   | (with_reducible exact LeO.none _)
   | (with_reducible refine LeO.ite ?_ ?_)
   | (with_reducible refine LeO.bind ?_ (fun _ => ?_))
   | exact ih0 _ _ _ _
   | exact ih1 _ _ _ _ _ _
   | exact integer_From.mono _ _
   | exact integer_Mul.mono _ _ _ _ _
   | exact LeO.none _
   | refine LeO.ite ?_ ?_
   | refine LeO.bind ?_ (fun _ => ?_)
set_option maxHeartbeats 8000000 in
set_option maxRecDepth 100000 in
theorem integer_Power.calls (k : Nat) (a0_0 : Bool) (A0_1 : Option Addr) (c0_1 : Nat) (l0_1 : List Int) (a1 : Int) (r1 : Bool) (r2 : List Int) (r3 : Int) (w : World) (hr0_1 : Kd.C (Kd.int .u32) w A0_1 l0_1.length l0_1) (hc0_1 : l0_1.length ≤ c0_1) (h : integer_Power.f k a0_0 l0_1 a1 = some (r1, r2, r3)) :
  Calls Tryd.prog 31 #[.agg #[.bool a0_0, .slice A0_1 l0_1.length c0_1], .int .i64 a1] w fun e w' => ∃ v1_ : Value, e = .returned (.tuple #[.agg #[.bool r1, v1_], .int .i64 r3]) ∧ Kd.V (Kd.int .u32) 60 w' w.heap.size (fun k_ => (w.heap.size ≤ k_)) v1_ r2 ∧ Below w.heap.size w w' := by
 have hu25 := Tryd.underlying25
 have HR0_1 := Aside0.mk hr0_1
 have HC0_1 := Aside0.mk hc0_1
 clear hr0_1 hc0_1
 have HB := Aside0.mk (Below.refl w.heap.size w)
 have H : (if a1 < 0 then (integer_Power.j0 k a1 true a0_0 l0_1) else (integer_Power.j0 k a1 (decide (a1 > 64)) a0_0 l0_1)) = some (r1, r2, r3) := h
 clear h
 have HC3 := Aside0.mk H
 clear H
 go_enter Tryd.func31, Tryd.ntmps31
 go_upto_region 1 with (first | ((with_reducible refine gate_dst (N := 2) rfl ?_); refine box_event ?hg (N := 2) ?hd (cs := #[.bool a0_0, .slice A0_1 l0_1.length c0_1]) (t := 25) ?hr ?_; (case hd => rfl); (case hg => rfl); (case hr => first | (go_simp; done) | (go_simp; rfl)); intro gb347 hg w4 hbox hb; have n0_ := Aside0.mk (below_step (by repeat (first | (with_reducible first | exact HB.out | apply below_alloc | apply pw_below_drewN | apply below_drew1) | exact HB.out)) hb); have n1_ := Aside0.mk (hbox); have n2_ := Aside0.mk ((by rw [hg]; exact (below_size (by repeat (first | (with_reducible first | exact HB.out | apply below_alloc | apply pw_below_drewN | apply below_drew1) | exact HB.out))) : w.heap.size ≤ gb347)); have n3_ := Aside0.mk ((by rw [hg]; exact (below_size (by repeat (first | (with_reducible first | exact HB.out | apply below_alloc | apply pw_below_drewN | apply below_drew1) | exact HB.out))) : w.heap.size ≤ gb347)); clear HB; have HB := n0_; have BK347 := n1_; have GW347 := n2_; have GE347 := n3_; clear n0_ n1_ n2_ n3_; clear hb hbox hg) | ((with_reducible refine gate_dst (N := 4) rfl ?_); refine box_event ?hg (N := 4) ?hd (cs := #[.bool false, .slice none 0 0]) (t := 25) ?hr ?_; (case hd => rfl); (case hg => rfl); (case hr => first | (go_simp; done) | (go_simp; rfl)); intro gb348 hg w5 hbox hb; have n0_ := Aside0.mk (blk_below (g := gb347) (o := .cells #[.bool a0_0, .slice A0_1 l0_1.length c0_1] 25 (0, 0)) (by (with_reducible repeat (first | refine blk_drewN ?_ _ | refine blk_drew ?_ | refine blk_alloc ?_ _)); exact BK347.out) hb); have n1_ := Aside0.mk (below_step (by repeat (first | (with_reducible first | exact HB.out | apply below_alloc | apply pw_below_drewN | apply below_drew1 | refine below_set ?_ GE347.out) | exact HB.out)) hb); have n2_ := Aside0.mk (hbox); have n3_ := Aside0.mk ((by rw [hg]; exact (below_size (by repeat (first | (with_reducible first | exact HB.out | apply below_alloc | apply pw_below_drewN | apply below_drew1 | refine below_set ?_ GE347.out) | exact HB.out))) : w.heap.size ≤ gb348)); have n4_ := Aside0.mk ((by rw [hg]; exact (below_size (by repeat (first | (with_reducible first | exact HB.out | apply below_alloc | apply pw_below_drewN | apply below_drew1 | refine below_set ?_ GE347.out) | exact HB.out))) : w.heap.size ≤ gb348)); have n5_ := Aside0.mk ((by rw [hg]; exact Nat.ne_of_lt (blk_lt (g := gb347) (o := .cells #[.bool a0_0, .slice A0_1 l0_1.length c0_1] 25 (0, 0)) (by (with_reducible repeat (first | refine blk_drewN ?_ _ | refine blk_drew ?_ | refine blk_alloc ?_ _)); exact BK347.out)) : gb347 ≠ gb348)); have n6_ := Aside0.mk ((by rw [hg]; exact Nat.ne_of_gt (blk_lt (g := gb347) (o := .cells #[.bool a0_0, .slice A0_1 l0_1.length c0_1] 25 (0, 0)) (by (with_reducible repeat (first | refine blk_drewN ?_ _ | refine blk_drew ?_ | refine blk_alloc ?_ _)); exact BK347.out)) : gb348 ≠ gb347)); clear BK347; clear HB; have BK347 := n0_; have HB := n1_; have BK348 := n2_; have GW348 := n3_; have GE348 := n4_; have NB347_348 := n5_; have NB348_347 := n6_; clear n0_ n1_ n2_ n3_ n4_ n5_ n6_; clear hb hbox hg))
 (try simp only [Act.put, List.setIfInBounds_toArray, List.set_cons_zero, List.set_cons_succ])
 go_cut [12] (fun v12 wc => ∃ (kq : Nat) (x12_2 : Bool), v12 = .bool x12_2 ∧ Aside0 (integer_Power.j0 kq a1 x12_2 a0_0 l0_1 = some (r1, r2, r3)) ∧ Aside0 (kq ≤ k) ∧ Aside0 (wc.heap[gb347]? = some (.cells #[.bool a0_0, (.slice A0_1 l0_1.length c0_1)] 25 (0, 0))) ∧ Aside0 (wc.heap[gb348]? = some (.cells #[.bool false, (.slice none 0 0)] 25 (0, 0))) ∧ Aside0 (Below w.heap.size w wc))
 case first =>
  have H := HC3.out
  clear HC3
  by_cases c6 : a1 < 0
  ·
   rw [if_pos c6] at H
   have c6b0 : decide (a1 < 0) = true := decide_eq_true c6
   clear c6
   (first | rw [c6b0] | (simp only [i64_w, i32_w]; rw [c6b0]) | skip)
   have H' := Aside0.mk H
   clear H
   go_wp2
   go_meet
   case rel => exact ⟨_, (true), (by first | rfl | (simp; done) | (simp [*]; done) | (simp <;> omega)), H', ⟨by first | omega | exact Nat.le_refl _⟩, ⟨by (with_reducible repeat (first | refine blk_drewN ?_ _ | refine blk_drew ?_ | refine blk_alloc ?_ _)); exact BK347.out⟩, ⟨by (with_reducible repeat (first | refine blk_drewN ?_ _ | refine blk_drew ?_ | refine blk_alloc ?_ _)); exact BK348.out⟩, ⟨by repeat (first | (with_reducible first | exact HB.out | apply below_alloc | apply pw_below_drewN | apply below_drew1 | refine below_set ?_ GE347.out | refine below_set ?_ GE348.out) | exact HB.out)⟩⟩
  ·
   rw [if_neg c6] at H
   have c6b0 : decide (a1 < 0) = false := decide_eq_false c6
   clear c6
   (first | rw [c6b0] | (simp only [i64_w, i32_w]; rw [c6b0]) | skip)
   have H' := Aside0.mk H
   clear H
   go_wp2
   go_meet
   case rel => exact ⟨_, (decide (a1 > 64)), (by first | rfl | (simp; done) | (simp [*]; done) | (simp <;> omega)), H', ⟨by first | omega | exact Nat.le_refl _⟩, ⟨by (with_reducible repeat (first | refine blk_drewN ?_ _ | refine blk_drew ?_ | refine blk_alloc ?_ _)); exact BK347.out⟩, ⟨by (with_reducible repeat (first | refine blk_drewN ?_ _ | refine blk_drew ?_ | refine blk_alloc ?_ _)); exact BK348.out⟩, ⟨by repeat (first | (with_reducible first | exact HB.out | apply below_alloc | apply pw_below_drewN | apply below_drew1 | refine below_set ?_ GE347.out | refine below_set ?_ GE348.out) | exact HB.out)⟩⟩
 case rest =>
  clear HC3
  try clear p2
  try clear c3
  try clear c6
  try clear c6b0
  obtain ⟨kq, x12_2, rfl, HA, HJ2, BK347, BK348, HB⟩ := hcut
  cases kq with
  | zero => exact absurd HA.out (by simp [integer_Power.j0])
  | succ kj2 =>
   have H := HA.out
   clear HA
   simp only [integer_Power.j0] at H
   by_cases c7 : x12_2 = true
   ·
    subst c7
    have H1 : (some (false, ([] : List Int), 2)) = some (r1, r2, r3) := by rw [if_pos rfl] at H; exact H
    clear H
    have H := H1
    clear H1
    simp only [Option.some.injEq, Prod.mk.injEq] at H
    obtain ⟨rfl, rfl, rfl⟩ := H
    have hnb8 := NB348_347.out
    have hnc8 := NB347_348.out
    have hcz9_0 : wc.cell? ⟨gb348, 0, none⟩ = some (.bool false) := (blk_cell BK348.out 0).trans rfl
    have hcz9_1 : wc.cell? ⟨gb348, 1, none⟩ = some (.slice none 0 0) := (blk_cell BK348.out 1).trans rfl
    have hfz9_0 := blk_frozen BK348.out 0
    have hfz9_1 := blk_frozen BK348.out 1
    go_wp2
    refine bodyPost_ret (results_ct rfl _ _ gb348 25 #[.bool false, .slice none 0 0] (0, 0) _ rfl (by (with_reducible repeat (first | refine blk_drewN ?_ _ | refine blk_drew ?_ | refine blk_alloc ?_ _)); refine blk_put (cs := #[.bool false, .slice none 0 0]) ?_ 1 _ rfl; (with_reducible repeat (first | refine blk_drewN ?_ _ | refine blk_drew ?_ | refine blk_alloc ?_ _)); refine blk_put (cs := #[.bool false, .slice none 0 0]) ?_ 0 _ rfl; (with_reducible repeat (first | refine blk_drewN ?_ _ | refine blk_drew ?_ | refine blk_alloc ?_ _)); exact BK348.out) Tryd.underlying25 rfl (by kernel_rfl)) rfl ?_
    exact ⟨_, by first | rfl | (simp [errW_none, errW_some] <;> rfl) | (simp [*, errW_none, errW_some] <;> rfl), by first | exact Kd.R_nil _ _ _ _ _ | exact Kd.N_nil _ _ _ _ _ | exact Kd.V_nil _ _ _ _ _ | exact Kd.Q_nil _ _ _ _ _ | exact Kd.S_nil _ _ _ _ _, by repeat (first | (with_reducible first | exact HB.out | apply below_alloc | apply pw_below_drewN | apply below_drew1 | refine below_set ?_ GE347.out | refine below_set ?_ GE348.out) | exact HB.out)⟩
   ·
    replace c7 := Bool.eq_false_iff.mpr c7
    subst c7
    have H1 : ((integer_From.f kj2 1).bind fun bt349 => (integer_Power.l0 kj2 a1 0 a0_0 l0_1 bt349.1 bt349.2)) = some (r1, r2, r3) := by rw [if_neg (show ¬ (false = true) by decide)] at H; exact H
    clear H
    have H := H1
    clear H1
    replace H := Option.bind_eq_some_iff.mp H
    obtain ⟨⟨t349, t350⟩, A100, H⟩ := H
    replace H : (integer_Power.l0 kj2 a1 0 a0_0 l0_1 t349 t350) = some (r1, r2, r3) := H
    have A10 := Aside0.mk A100
    clear A100
    have H' := Aside0.mk H
    clear H
    go_wp2_with (first | ((with_reducible refine gate_callee (f := 15) rfl ?_); refine goesL_ (some 14) rfl rfl Tryd.func15 (by kernel_rfl) rfl #[.int .i64 1] rfl (by (try simp only [List.map_toArray, List.map_cons, List.map_nil]); first | done | rfl | (simp only [List.length_drop, List.length_take]; rfl)) ?_; (with_reducible refine (integer_From.calls kj2 1 t349 t350 _ A10.out).mono ?_); rintro e w11 ⟨v351, rfl, ho0, hb⟩; refine ⟨_, rfl, ?_⟩; have n0_ := Aside0.mk (Kd.V_lower (Kd.V_mono (ok' := fun k_ => (w.heap.size ≤ k_) ∧ k_ ≠ gb347 ∧ k_ ≠ gb348) ho0 (fun k_ hk_ => ⟨(Nat.le_trans (below_size (by repeat (first | (with_reducible first | exact HB.out | apply below_alloc | apply pw_below_drewN | apply below_drew1 | refine below_set ?_ GE347.out | refine below_set ?_ GE348.out) | exact HB.out))) hk_), (Kd.freshB (g := gb347) (o := .cells #[.bool a0_0, .slice A0_1 l0_1.length c0_1] 25 (0, 0)) (by (with_reducible repeat (first | refine blk_drewN ?_ _ | refine blk_drew ?_ | refine blk_alloc ?_ _)); exact BK347.out) k_ hk_), (Kd.freshB (g := gb348) (o := .cells #[.bool false, .slice none 0 0] 25 (0, 0)) (by (with_reducible repeat (first | refine blk_drewN ?_ _ | refine blk_drew ?_ | refine blk_alloc ?_ _)); exact BK348.out) k_ hk_)⟩)) (below_size (by repeat (first | (with_reducible first | exact HB.out | apply below_alloc | apply pw_below_drewN | apply below_drew1 | refine below_set ?_ GE347.out | refine below_set ?_ GE348.out) | exact HB.out)))); have n1_ := Aside0.mk (blk_below (g := gb347) (o := .cells #[.bool a0_0, .slice A0_1 l0_1.length c0_1] 25 (0, 0)) (by (with_reducible repeat (first | refine blk_drewN ?_ _ | refine blk_drew ?_ | refine blk_alloc ?_ _)); exact BK347.out) hb); have n2_ := Aside0.mk (blk_below (g := gb348) (o := .cells #[.bool false, .slice none 0 0] 25 (0, 0)) (by (with_reducible repeat (first | refine blk_drewN ?_ _ | refine blk_drew ?_ | refine blk_alloc ?_ _)); exact BK348.out) hb); have n3_ := Aside0.mk (below_step (by repeat (first | (with_reducible first | exact HB.out | apply below_alloc | apply pw_below_drewN | apply below_drew1 | refine below_set ?_ GE347.out | refine below_set ?_ GE348.out) | exact HB.out)) hb); clear BK347; clear BK348; clear HB; have HO352 := n0_; have BK347 := n1_; have BK348 := n2_; have HB := n3_; clear n0_ n1_ n2_ n3_; (try clear hb); (try clear hb2); (try clear hk); (try clear hi); (try clear ho0)) | ((with_reducible refine gate_dst (N := 6) rfl ?_); refine box_event ?hg (N := 6) ?hd (cs := #[.bool false, .slice none 0 0]) (t := 25) ?hr ?_; (case hd => rfl); (case hg => rfl); (case hr => first | (go_simp; done) | (go_simp; rfl)); intro gb353 hg w12 hbox hb; have n0_ := Aside0.mk (Kd.V_below (Kd.V_elderB (by (with_reducible repeat (first | apply Kd.V_alloc | apply Kd.V_drewN | apply Kd.V_drew)); exact HO352.out) gb353 (Nat.le_of_eq hg.symm)) hb); have n1_ := Aside0.mk (blk_below (g := gb347) (o := .cells #[.bool a0_0, .slice A0_1 l0_1.length c0_1] 25 (0, 0)) (by (with_reducible repeat (first | refine blk_drewN ?_ _ | refine blk_drew ?_ | refine blk_alloc ?_ _)); exact BK347.out) hb); have n2_ := Aside0.mk (blk_below (g := gb348) (o := .cells #[.bool false, .slice none 0 0] 25 (0, 0)) (by (with_reducible repeat (first | refine blk_drewN ?_ _ | refine blk_drew ?_ | refine blk_alloc ?_ _)); exact BK348.out) hb); have n3_ := Aside0.mk (below_step (by repeat (first | (with_reducible first | exact HB.out | apply below_alloc | apply pw_below_drewN | apply below_drew1 | refine below_set ?_ GE347.out | refine below_set ?_ GE348.out) | exact HB.out)) hb); have n4_ := Aside0.mk (hbox); have n5_ := Aside0.mk ((by rw [hg]; exact (below_size (by repeat (first | (with_reducible first | exact HB.out | apply below_alloc | apply pw_below_drewN | apply below_drew1 | refine below_set ?_ GE347.out | refine below_set ?_ GE348.out) | exact HB.out))) : w.heap.size ≤ gb353)); have n6_ := Aside0.mk ((by rw [hg]; exact (below_size (by repeat (first | (with_reducible first | exact HB.out | apply below_alloc | apply pw_below_drewN | apply below_drew1 | refine below_set ?_ GE347.out | refine below_set ?_ GE348.out) | exact HB.out))) : w.heap.size ≤ gb353)); have n7_ := Aside0.mk ((by rw [hg]; exact Nat.ne_of_lt (blk_lt (g := gb347) (o := .cells #[.bool a0_0, .slice A0_1 l0_1.length c0_1] 25 (0, 0)) (by (with_reducible repeat (first | refine blk_drewN ?_ _ | refine blk_drew ?_ | refine blk_alloc ?_ _)); exact BK347.out)) : gb347 ≠ gb353)); have n8_ := Aside0.mk ((by rw [hg]; exact Nat.ne_of_gt (blk_lt (g := gb347) (o := .cells #[.bool a0_0, .slice A0_1 l0_1.length c0_1] 25 (0, 0)) (by (with_reducible repeat (first | refine blk_drewN ?_ _ | refine blk_drew ?_ | refine blk_alloc ?_ _)); exact BK347.out)) : gb353 ≠ gb347)); have n9_ := Aside0.mk ((by rw [hg]; exact Nat.ne_of_lt (blk_lt (g := gb348) (o := .cells #[.bool false, .slice none 0 0] 25 (0, 0)) (by (with_reducible repeat (first | refine blk_drewN ?_ _ | refine blk_drew ?_ | refine blk_alloc ?_ _)); exact BK348.out)) : gb348 ≠ gb353)); have n10_ := Aside0.mk ((by rw [hg]; exact Nat.ne_of_gt (blk_lt (g := gb348) (o := .cells #[.bool false, .slice none 0 0] 25 (0, 0)) (by (with_reducible repeat (first | refine blk_drewN ?_ _ | refine blk_drew ?_ | refine blk_alloc ?_ _)); exact BK348.out)) : gb353 ≠ gb348)); clear HO352; clear BK347; clear BK348; clear HB; have HO352 := n0_; have BK347 := n1_; have BK348 := n2_; have HB := n3_; have BK353 := n4_; have GW353 := n5_; have GE353 := n6_; have NB347_353 := n7_; have NB353_347 := n8_; have NB348_353 := n9_; have NB353_348 := n10_; clear n0_ n1_ n2_ n3_ n4_ n5_ n6_ n7_ n8_ n9_ n10_; clear hb hbox hg; have hnb13 := NB353_347.out; have hnc13 := NB347_353.out; have hnb14 := NB353_348.out; have hnc14 := NB348_353.out; have hcz15_0 : w12.cell? ⟨gb353, 0, none⟩ = some (.bool false) := (blk_cell BK353.out 0).trans rfl; have hcz15_1 : w12.cell? ⟨gb353, 1, none⟩ = some (.slice none 0 0) := (blk_cell BK353.out 1).trans rfl; have hfz15_0 := blk_frozen BK353.out 0; have hfz15_1 := blk_frozen BK353.out 1; obtain ⟨Ao16, co16, eo16⟩ := Kd.V_slice HO352.out; subst eo16))
    go_loopg [16] kj2 (fun kq v16 w' => ∃ (x16_2 : Int) (x354000_2 : Bool) (x354001_2 : List Int) (u354001 : Value), v16 = .int .i64 x16_2 ∧ Aside0 (integer_Power.l0 kq a1 x16_2 a0_0 l0_1 x354000_2 x354001_2 = some (r1, r2, r3)) ∧ Aside0 (kq ≤ kj2) ∧ Aside0 (Kd.V (Kd.int .u32) 60 w' w.heap.size (fun k_ => (w.heap.size ≤ k_) ∧ k_ ≠ gb347 ∧ k_ ≠ gb348 ∧ k_ ≠ gb353) u354001 x354001_2) ∧ Aside0 (w'.heap[gb347]? = some (.cells #[.bool a0_0, (.slice A0_1 l0_1.length c0_1)] 25 (0, 0))) ∧ Aside0 (w'.heap[gb348]? = some (.cells #[.bool false, (.slice none 0 0)] 25 (0, 0))) ∧ Aside0 (w'.heap[gb353]? = some (.cells #[.bool x354000_2, u354001] 25 (0, 0))) ∧ Aside0 (Below w.heap.size w w'))
    case atStart => exact ⟨(0), (t349), (t350), (.slice Ao16 t350.length co16), (by first | rfl | (simp; done) | (simp [*]; done) | (simp <;> omega)), H', ⟨Nat.le_refl _⟩, ⟨by (with_reducible repeat (first | apply Kd.V_alloc | apply Kd.V_drewN | apply Kd.V_drew)); exact Kd.V_mono (Kd.V_far (p := ⟨gb353, 1, none⟩) (Kd.V_far (p := ⟨gb353, 0, none⟩) (Kd.V_mono HO352.out (fun k_ hk => (⟨hk, hk.2⟩ : _ ∧ k_ ≠ gb353))) (fun _ hk => hk.2) (.bool t349)) (fun _ hk => hk.2) (.slice Ao16 t350.length co16)) (fun _ hk => ⟨hk.1.1.1, ⟨hk.1.1.2.1, ⟨hk.1.1.2.2, hk.1.2⟩⟩⟩)⟩, ⟨by (with_reducible repeat (first | refine blk_drewN ?_ _ | refine blk_drew ?_ | refine blk_alloc ?_ _)); refine blk_far ?_ NB347_353.out _; (with_reducible repeat (first | refine blk_drewN ?_ _ | refine blk_drew ?_ | refine blk_alloc ?_ _)); refine blk_far ?_ NB347_353.out _; (with_reducible repeat (first | refine blk_drewN ?_ _ | refine blk_drew ?_ | refine blk_alloc ?_ _)); exact BK347.out⟩, ⟨by (with_reducible repeat (first | refine blk_drewN ?_ _ | refine blk_drew ?_ | refine blk_alloc ?_ _)); refine blk_far ?_ NB348_353.out _; (with_reducible repeat (first | refine blk_drewN ?_ _ | refine blk_drew ?_ | refine blk_alloc ?_ _)); refine blk_far ?_ NB348_353.out _; (with_reducible repeat (first | refine blk_drewN ?_ _ | refine blk_drew ?_ | refine blk_alloc ?_ _)); exact BK348.out⟩, ⟨by (with_reducible repeat (first | refine blk_drewN ?_ _ | refine blk_drew ?_ | refine blk_alloc ?_ _)); refine blk_put (cs := #[.bool t349, .slice none 0 0]) ?_ 1 _ rfl; (with_reducible repeat (first | refine blk_drewN ?_ _ | refine blk_drew ?_ | refine blk_alloc ?_ _)); refine blk_put (cs := #[.bool false, .slice none 0 0]) ?_ 0 _ rfl; (with_reducible repeat (first | refine blk_drewN ?_ _ | refine blk_drew ?_ | refine blk_alloc ?_ _)); exact BK353.out⟩, ⟨by repeat (first | (with_reducible first | exact HB.out | apply below_alloc | apply pw_below_drewN | apply below_drew1 | refine below_set ?_ GE347.out | refine below_set ?_ GE348.out | refine below_set ?_ GE353.out) | exact HB.out)⟩⟩
    case round =>
     clear H'
     try clear c1
     try clear p2
     try clear c3
     try clear c6
     try clear c6b0
     try clear c7
     try clear c8
     try clear c13
     try clear c14
     try clear c15
     try clear hcz15_0
     try clear hcz15_1
     try clear hcz9_0
     try clear hcz9_1
     try clear hfz15_0
     try clear hfz15_1
     try clear hfz9_0
     try clear hfz9_1
     try clear p2
     obtain ⟨x16_2, x354000_2, x354001_2, u354001, rfl, HA, HK2, HO_354001, BK347, BK348, BK353, HB⟩ := hrel
     cases gk with
     | zero => exact absurd HA.out (by simp [integer_Power.l0])
     | succ k2 =>
      have H := HA.out
      clear HA
      simp only [integer_Power.l0] at H
      by_cases c17 : x16_2 < a1
      ·
       rw [if_pos c17] at H
       have c17b0 : decide (x16_2 < a1) = true := decide_eq_true c17
       clear c17
       replace H := Option.bind_eq_some_iff.mp H
       obtain ⟨⟨t354, t355⟩, A180, H⟩ := H
       replace H : (integer_Power.l0 k2 a1 (wrap64 (x16_2 + 1)) a0_0 l0_1 t354 t355) = some (r1, r2, r3) := H
       have A18 := Aside0.mk A180
       clear A180
       have H' := Aside0.mk H
       clear H
       have hnb19 := NB353_347.out
       have hnc19 := NB347_353.out
       have hnb20 := NB353_348.out
       have hnc20 := NB348_353.out
       have hcz21_0 : wr.cell? ⟨gb353, 0, none⟩ = some (.bool x354000_2) := (blk_cell BK353.out 0).trans rfl
       have hcz21_1 : wr.cell? ⟨gb353, 1, none⟩ = some (u354001) := (blk_cell BK353.out 1).trans rfl
       have hfz21_0 := blk_frozen BK353.out 0
       have hfz21_1 := blk_frozen BK353.out 1
       have hnb22 := NB347_348.out
       have hnc22 := NB348_347.out
       have hcz23_0 : wr.cell? ⟨gb347, 0, none⟩ = some (.bool a0_0) := (blk_cell BK347.out 0).trans rfl
       have hcz23_1 : wr.cell? ⟨gb347, 1, none⟩ = some (.slice A0_1 l0_1.length c0_1) := (blk_cell BK347.out 1).trans rfl
       have hfz23_0 := blk_frozen BK347.out 0
       have hfz23_1 := blk_frozen BK347.out 1
       obtain ⟨Ao24, co24, eo24⟩ := Kd.V_slice HO_354001.out
       subst eo24
       go_wp2_with (first | ((with_reducible refine gate_callee (f := 25) rfl ?_); refine goesL_ (some 20) rfl rfl Tryd.func25 (by kernel_rfl) rfl #[.agg #[.bool x354000_2, .slice Ao24 x354001_2.length co24], .agg #[.bool a0_0, .slice A0_1 l0_1.length c0_1]] rfl (by (try simp only [List.map_toArray, List.map_cons, List.map_nil]); first | done | rfl | (simp only [List.length_drop, List.length_take]; rfl)) ?_; (with_reducible refine (integer_Mul.calls k2 x354000_2 _ _ x354001_2 a0_0 _ _ l0_1 t354 t355 _ ?side1 ?side2 ?side3 ?side4 A18.out).mono ?_); (case side1 => repeat (first | exact (Kd.V_reads' HO_354001.out).2.2 | (with_reducible refine Kd.C_alloc ?_ _) | (with_reducible refine Kd.C_drewN ?_ _) | (with_reducible refine Kd.C_drew ?_))); (case side2 => exact (Kd.V_reads' HO_354001.out).2.1); (case side3 => repeat (first | exact (Kd.C_below HR0_1.out HB.out) | (with_reducible refine Kd.C_alloc ?_ _) | (with_reducible refine Kd.C_drewN ?_ _) | (with_reducible refine Kd.C_drew ?_))); (case side4 => exact HC0_1.out); rintro e w25 ⟨v356, rfl, ho0, hb⟩; refine ⟨_, rfl, ?_⟩; have n0_ := Aside0.mk (Kd.V_below (by (with_reducible repeat (first | apply Kd.V_alloc | apply Kd.V_drewN | apply Kd.V_drew)); exact HO_354001.out) hb); have n1_ := Aside0.mk (Kd.V_lower (Kd.V_mono (ok' := fun k_ => (w.heap.size ≤ k_) ∧ k_ ≠ gb347 ∧ k_ ≠ gb348 ∧ k_ ≠ gb353) ho0 (fun k_ hk_ => ⟨(Nat.le_trans (below_size (by repeat (first | (with_reducible first | exact HB.out | apply below_alloc | apply pw_below_drewN | apply below_drew1 | refine below_set ?_ GE347.out | refine below_set ?_ GE348.out | refine below_set ?_ GE353.out) | exact HB.out))) hk_), (Kd.freshB (g := gb347) (o := .cells #[.bool a0_0, .slice A0_1 l0_1.length c0_1] 25 (0, 0)) (by (with_reducible repeat (first | refine blk_drewN ?_ _ | refine blk_drew ?_ | refine blk_alloc ?_ _)); exact BK347.out) k_ hk_), (Kd.freshB (g := gb348) (o := .cells #[.bool false, .slice none 0 0] 25 (0, 0)) (by (with_reducible repeat (first | refine blk_drewN ?_ _ | refine blk_drew ?_ | refine blk_alloc ?_ _)); exact BK348.out) k_ hk_), (Kd.freshB (g := gb353) (o := .cells #[.bool x354000_2, .slice Ao24 x354001_2.length co24] 25 (0, 0)) (by (with_reducible repeat (first | refine blk_drewN ?_ _ | refine blk_drew ?_ | refine blk_alloc ?_ _)); exact BK353.out) k_ hk_)⟩)) (below_size (by repeat (first | (with_reducible first | exact HB.out | apply below_alloc | apply pw_below_drewN | apply below_drew1 | refine below_set ?_ GE347.out | refine below_set ?_ GE348.out | refine below_set ?_ GE353.out) | exact HB.out)))); have n2_ := Aside0.mk (blk_below (g := gb347) (o := .cells #[.bool a0_0, .slice A0_1 l0_1.length c0_1] 25 (0, 0)) (by (with_reducible repeat (first | refine blk_drewN ?_ _ | refine blk_drew ?_ | refine blk_alloc ?_ _)); exact BK347.out) hb); have n3_ := Aside0.mk (blk_below (g := gb348) (o := .cells #[.bool false, .slice none 0 0] 25 (0, 0)) (by (with_reducible repeat (first | refine blk_drewN ?_ _ | refine blk_drew ?_ | refine blk_alloc ?_ _)); exact BK348.out) hb); have n4_ := Aside0.mk (blk_below (g := gb353) (o := .cells #[.bool x354000_2, .slice Ao24 x354001_2.length co24] 25 (0, 0)) (by (with_reducible repeat (first | refine blk_drewN ?_ _ | refine blk_drew ?_ | refine blk_alloc ?_ _)); exact BK353.out) hb); have n5_ := Aside0.mk (below_step (by repeat (first | (with_reducible first | exact HB.out | apply below_alloc | apply pw_below_drewN | apply below_drew1 | refine below_set ?_ GE347.out | refine below_set ?_ GE348.out | refine below_set ?_ GE353.out) | exact HB.out)) hb); clear HO_354001; clear BK347; clear BK348; clear BK353; clear HB; have HO_354001 := n0_; have HO357 := n1_; have BK347 := n2_; have BK348 := n3_; have BK353 := n4_; have HB := n5_; clear n0_ n1_ n2_ n3_ n4_ n5_; (try clear hb); (try clear hb2); (try clear hk); (try clear hi); (try clear ho0); have hcz26_0 : w25.cell? ⟨gb353, 0, none⟩ = some (.bool x354000_2) := (blk_cell BK353.out 0).trans rfl; have hcz26_1 : w25.cell? ⟨gb353, 1, none⟩ = some (.slice Ao24 x354001_2.length co24) := (blk_cell BK353.out 1).trans rfl; have hfz26_0 := blk_frozen BK353.out 0; have hfz26_1 := blk_frozen BK353.out 1; obtain ⟨Ao27, co27, eo27⟩ := Kd.V_slice HO357.out; subst eo27))
       go_roundg k2
       case measure => have := HJ2.out; have := HK2.out; omega
       case rel => exact ⟨(wrap64 (x16_2 + 1)), (t354), (t355), (.slice Ao27 t355.length co27), (by first | rfl | (simp; done) | (simp [*]; done) | (simp <;> omega)), H', ⟨by have := HJ2.out; have := HK2.out; omega⟩, ⟨by (with_reducible repeat (first | apply Kd.V_alloc | apply Kd.V_drewN | apply Kd.V_drew)); exact Kd.V_mono (Kd.V_far (p := ⟨gb353, 1, none⟩) (Kd.V_far (p := ⟨gb353, 0, none⟩) (Kd.V_mono HO357.out (fun k_ hk => (⟨hk, hk.2.2.2⟩ : _ ∧ k_ ≠ gb353))) (fun _ hk => hk.2) (.bool t354)) (fun _ hk => hk.2) (.slice Ao27 t355.length co27)) (fun _ hk => ⟨hk.1.1, ⟨hk.1.2.1, ⟨hk.1.2.2.1, hk.1.2.2.2⟩⟩⟩)⟩, ⟨by (with_reducible repeat (first | refine blk_drewN ?_ _ | refine blk_drew ?_ | refine blk_alloc ?_ _)); refine blk_far ?_ NB347_353.out _; (with_reducible repeat (first | refine blk_drewN ?_ _ | refine blk_drew ?_ | refine blk_alloc ?_ _)); refine blk_far ?_ NB347_353.out _; (with_reducible repeat (first | refine blk_drewN ?_ _ | refine blk_drew ?_ | refine blk_alloc ?_ _)); exact BK347.out⟩, ⟨by (with_reducible repeat (first | refine blk_drewN ?_ _ | refine blk_drew ?_ | refine blk_alloc ?_ _)); refine blk_far ?_ NB348_353.out _; (with_reducible repeat (first | refine blk_drewN ?_ _ | refine blk_drew ?_ | refine blk_alloc ?_ _)); refine blk_far ?_ NB348_353.out _; (with_reducible repeat (first | refine blk_drewN ?_ _ | refine blk_drew ?_ | refine blk_alloc ?_ _)); exact BK348.out⟩, ⟨by (with_reducible repeat (first | refine blk_drewN ?_ _ | refine blk_drew ?_ | refine blk_alloc ?_ _)); refine blk_put (cs := #[.bool t354, .slice Ao24 x354001_2.length co24]) ?_ 1 _ rfl; (with_reducible repeat (first | refine blk_drewN ?_ _ | refine blk_drew ?_ | refine blk_alloc ?_ _)); refine blk_put (cs := #[.bool x354000_2, .slice Ao24 x354001_2.length co24]) ?_ 0 _ rfl; (with_reducible repeat (first | refine blk_drewN ?_ _ | refine blk_drew ?_ | refine blk_alloc ?_ _)); exact BK353.out⟩, ⟨by repeat (first | (with_reducible first | exact HB.out | apply below_alloc | apply pw_below_drewN | apply below_drew1 | refine below_set ?_ GE347.out | refine below_set ?_ GE348.out | refine below_set ?_ GE353.out) | exact HB.out)⟩⟩
      ·
       rw [if_neg c17] at H
       have c17b0 : decide (x16_2 < a1) = false := decide_eq_false c17
       clear c17
       simp only [Option.some.injEq, Prod.mk.injEq] at H
       obtain ⟨rfl, rfl, rfl⟩ := H
       have hnb28 := NB353_347.out
       have hnc28 := NB347_353.out
       have hnb29 := NB353_348.out
       have hnc29 := NB348_353.out
       have hcz30_0 : wr.cell? ⟨gb353, 0, none⟩ = some (.bool x354000_2) := (blk_cell BK353.out 0).trans rfl
       have hcz30_1 : wr.cell? ⟨gb353, 1, none⟩ = some (u354001) := (blk_cell BK353.out 1).trans rfl
       have hfz30_0 := blk_frozen BK353.out 0
       have hfz30_1 := blk_frozen BK353.out 1
       have hnb31 := NB348_347.out
       have hnc31 := NB347_348.out
       have hcz32_0 : wr.cell? ⟨gb348, 0, none⟩ = some (.bool false) := (blk_cell BK348.out 0).trans rfl
       have hcz32_1 : wr.cell? ⟨gb348, 1, none⟩ = some (.slice none 0 0) := (blk_cell BK348.out 1).trans rfl
       have hfz32_0 := blk_frozen BK348.out 0
       have hfz32_1 := blk_frozen BK348.out 1
       obtain ⟨Ao33, co33, eo33⟩ := Kd.V_slice HO_354001.out
       subst eo33
       go_wp2
       refine bodyPost_ret (results_ct rfl _ _ gb348 25 #[.bool x354000_2, .slice Ao33 x354001_2.length co33] (0, 0) _ rfl (by (with_reducible repeat (first | refine blk_drewN ?_ _ | refine blk_drew ?_ | refine blk_alloc ?_ _)); refine blk_put (cs := #[.bool x354000_2, .slice none 0 0]) ?_ 1 _ rfl; (with_reducible repeat (first | refine blk_drewN ?_ _ | refine blk_drew ?_ | refine blk_alloc ?_ _)); refine blk_put (cs := #[.bool false, .slice none 0 0]) ?_ 0 _ rfl; (with_reducible repeat (first | refine blk_drewN ?_ _ | refine blk_drew ?_ | refine blk_alloc ?_ _)); exact BK348.out) Tryd.underlying25 rfl (by kernel_rfl)) rfl ?_
       exact ⟨_, by first | rfl | (simp [errW_none, errW_some] <;> rfl) | (simp [*, errW_none, errW_some] <;> rfl), by (with_reducible repeat (first | apply Kd.V_alloc | apply Kd.V_drewN | apply Kd.V_drew)); exact Kd.V_mono (Kd.V_far (p := ⟨gb348, 1, none⟩) (Kd.V_far (p := ⟨gb348, 0, none⟩) (Kd.V_mono HO_354001.out (fun k_ hk => (⟨hk, hk.2.2.1⟩ : _ ∧ k_ ≠ gb348))) (fun _ hk => hk.2) (.bool x354000_2)) (fun _ hk => hk.2) (.slice Ao33 x354001_2.length co33)) (fun _ hk => hk.1.1), by repeat (first | (with_reducible first | exact HB.out | apply below_alloc | apply pw_below_drewN | apply below_drew1 | refine below_set ?_ GE347.out | refine below_set ?_ GE348.out | refine below_set ?_ GE353.out) | exact HB.out)⟩
def integer_Int_Sign.f (a0_0 : Bool) (l0_1 : List Int) : Option (Int) := if (l0_1.length : Int) = 0 then (some 0) else (if a0_0 = true then (some (-1)) else (some 1))
set_option maxHeartbeats 8000000 in
set_option maxRecDepth 100000 in
theorem integer_Int_Sign.calls (a0_0 : Bool) (A0_1 : Option Addr) (c0_1 : Nat) (l0_1 : List Int) (r : Int) (w : World) (hr0_1 : Kd.C (Kd.int .u32) w A0_1 l0_1.length l0_1) (hc0_1 : l0_1.length ≤ c0_1) (h : integer_Int_Sign.f a0_0 l0_1 = some r) :
  Calls Tryd.prog 19 #[.agg #[.bool a0_0, .slice A0_1 l0_1.length c0_1]] w fun e w' => e = .returned (.int .i64 r) ∧ Below w.heap.size w w' := by
 have hu25 := Tryd.underlying25
 have HR0_1 := Aside0.mk hr0_1
 have HC0_1 := Aside0.mk hc0_1
 clear hr0_1 hc0_1
 have HB := Aside0.mk (Below.refl w.heap.size w)
 have H : (if (l0_1.length : Int) = 0 then (some 0) else (if a0_0 = true then (some (-1)) else (some 1))) = some r := h
 clear h
 by_cases c2 : (l0_1.length : Int) = 0
 ·
  rw [if_pos c2] at H
  have c2b0 : ((l0_1.length : Int) == 0) = true := beq_iff_eq.mpr c2
  have c2b1 : ((l0_1.length : Int) != 0) = false := bne_eq_false_iff_eq.mpr c2
  clear c2
  obtain rfl := Option.some.inj H
  go_enter Tryd.func19, Tryd.ntmps19
  go_wp2_with (first | ((with_reducible refine gate_dst (N := 1) rfl ?_); refine box_event ?hg (N := 1) ?hd (cs := #[.bool a0_0, .slice A0_1 l0_1.length c0_1]) (t := 25) ?hr ?_; (case hd => rfl); (case hg => rfl); (case hr => first | (go_simp; done) | (go_simp; rfl)); intro gb175 hg w3 hbox hb; have n0_ := Aside0.mk (below_step (by repeat (first | (with_reducible first | exact HB.out | apply below_alloc | apply pw_below_drewN | apply below_drew1) | exact HB.out)) hb); have n1_ := Aside0.mk (hbox); have n2_ := Aside0.mk ((by rw [hg]; exact (below_size (by repeat (first | (with_reducible first | exact HB.out | apply below_alloc | apply pw_below_drewN | apply below_drew1) | exact HB.out))) : w.heap.size ≤ gb175)); have n3_ := Aside0.mk ((by rw [hg]; exact (below_size (by repeat (first | (with_reducible first | exact HB.out | apply below_alloc | apply pw_below_drewN | apply below_drew1) | exact HB.out))) : w.heap.size ≤ gb175)); clear HB; have HB := n0_; have BK175 := n1_; have GW175 := n2_; have GE175 := n3_; clear n0_ n1_ n2_ n3_; clear hb hbox hg; have hcz4_0 : w3.cell? ⟨gb175, 0, none⟩ = some (.bool a0_0) := (blk_cell BK175.out 0).trans rfl; have hcz4_1 : w3.cell? ⟨gb175, 1, none⟩ = some (.slice A0_1 l0_1.length c0_1) := (blk_cell BK175.out 1).trans rfl; have hfz4_0 := blk_frozen BK175.out 0; have hfz4_1 := blk_frozen BK175.out 1))
  go_ret
  exact ⟨by first | rfl | (simp [errW_none, errW_some] <;> rfl) | (simp [*, errW_none, errW_some] <;> rfl), by repeat (first | (with_reducible first | exact HB.out | apply below_alloc | apply pw_below_drewN | apply below_drew1 | refine below_set ?_ GE175.out) | exact HB.out)⟩
 ·
  rw [if_neg c2] at H
  have c2b0 : ((l0_1.length : Int) == 0) = false := beq_eq_false_iff_ne.mpr c2
  have c2b1 : ((l0_1.length : Int) != 0) = true := bne_iff_ne.mpr c2
  have c2b2 : ¬ (l0_1 = []) := fun h_ => c2 (by rw [h_]; rfl)
  by_cases c5 : a0_0 = true
  ·
   subst c5
   have H1 : (some (-1)) = some r := by rw [if_pos rfl] at H; exact H
   clear H
   have H := H1
   clear H1
   obtain rfl := Option.some.inj H
   go_enter Tryd.func19, Tryd.ntmps19
   go_wp2_with (first | ((with_reducible refine gate_dst (N := 1) rfl ?_); refine box_event ?hg (N := 1) ?hd (cs := #[.bool true, .slice A0_1 l0_1.length c0_1]) (t := 25) ?hr ?_; (case hd => rfl); (case hg => rfl); (case hr => first | (go_simp; done) | (go_simp; rfl)); intro gb175 hg w6 hbox hb; have n0_ := Aside0.mk (below_step (by repeat (first | (with_reducible first | exact HB.out | apply below_alloc | apply pw_below_drewN | apply below_drew1) | exact HB.out)) hb); have n1_ := Aside0.mk (hbox); have n2_ := Aside0.mk ((by rw [hg]; exact (below_size (by repeat (first | (with_reducible first | exact HB.out | apply below_alloc | apply pw_below_drewN | apply below_drew1) | exact HB.out))) : w.heap.size ≤ gb175)); have n3_ := Aside0.mk ((by rw [hg]; exact (below_size (by repeat (first | (with_reducible first | exact HB.out | apply below_alloc | apply pw_below_drewN | apply below_drew1) | exact HB.out))) : w.heap.size ≤ gb175)); clear HB; have HB := n0_; have BK175 := n1_; have GW175 := n2_; have GE175 := n3_; clear n0_ n1_ n2_ n3_; clear hb hbox hg; have hcz7_0 : w6.cell? ⟨gb175, 0, none⟩ = some (.bool true) := (blk_cell BK175.out 0).trans rfl; have hcz7_1 : w6.cell? ⟨gb175, 1, none⟩ = some (.slice A0_1 l0_1.length c0_1) := (blk_cell BK175.out 1).trans rfl; have hfz7_0 := blk_frozen BK175.out 0; have hfz7_1 := blk_frozen BK175.out 1))
   go_ret
   exact ⟨by first | rfl | (simp [errW_none, errW_some] <;> rfl) | (simp [*, errW_none, errW_some] <;> rfl), by repeat (first | (with_reducible first | exact HB.out | apply below_alloc | apply pw_below_drewN | apply below_drew1 | refine below_set ?_ GE175.out) | exact HB.out)⟩
  ·
   replace c5 := Bool.eq_false_iff.mpr c5
   subst c5
   have H1 : (some 1) = some r := by rw [if_neg (show ¬ (false = true) by decide)] at H; exact H
   clear H
   have H := H1
   clear H1
   obtain rfl := Option.some.inj H
   go_enter Tryd.func19, Tryd.ntmps19
   go_wp2_with (first | ((with_reducible refine gate_dst (N := 1) rfl ?_); refine box_event ?hg (N := 1) ?hd (cs := #[.bool false, .slice A0_1 l0_1.length c0_1]) (t := 25) ?hr ?_; (case hd => rfl); (case hg => rfl); (case hr => first | (go_simp; done) | (go_simp; rfl)); intro gb175 hg w8 hbox hb; have n0_ := Aside0.mk (below_step (by repeat (first | (with_reducible first | exact HB.out | apply below_alloc | apply pw_below_drewN | apply below_drew1) | exact HB.out)) hb); have n1_ := Aside0.mk (hbox); have n2_ := Aside0.mk ((by rw [hg]; exact (below_size (by repeat (first | (with_reducible first | exact HB.out | apply below_alloc | apply pw_below_drewN | apply below_drew1) | exact HB.out))) : w.heap.size ≤ gb175)); have n3_ := Aside0.mk ((by rw [hg]; exact (below_size (by repeat (first | (with_reducible first | exact HB.out | apply below_alloc | apply pw_below_drewN | apply below_drew1) | exact HB.out))) : w.heap.size ≤ gb175)); clear HB; have HB := n0_; have BK175 := n1_; have GW175 := n2_; have GE175 := n3_; clear n0_ n1_ n2_ n3_; clear hb hbox hg; have hcz9_0 : w8.cell? ⟨gb175, 0, none⟩ = some (.bool false) := (blk_cell BK175.out 0).trans rfl; have hcz9_1 : w8.cell? ⟨gb175, 1, none⟩ = some (.slice A0_1 l0_1.length c0_1) := (blk_cell BK175.out 1).trans rfl; have hfz9_0 := blk_frozen BK175.out 0; have hfz9_1 := blk_frozen BK175.out 1))
   go_ret
   exact ⟨by first | rfl | (simp [errW_none, errW_some] <;> rfl) | (simp [*, errW_none, errW_some] <;> rfl), by repeat (first | (with_reducible first | exact HB.out | apply below_alloc | apply pw_below_drewN | apply below_drew1 | refine below_set ?_ GE175.out) | exact HB.out)⟩
def integer_order.l0 : Nat → List Int → List Int → Int → Option (Int)
 | 0, _, _, _ => none
 | k + 1, x0, x1, x5 => if x5 ≥ 0 then (if 0 ≤ x5 then (if x5 < (x0.length : Int) then (if x5 < (x1.length : Int) then (if (rd x0 x5) = (rd x1 x5) then (integer_order.l0 k x0 x1 (wrap64 (x5 - 1))) else (if (rd x0 x5) < (rd x1 x5) then (some (-1)) else (some 1))) else (none)) else (none)) else (none)) else (some 0)
def integer_order.f (k : Nat) (l0 : List Int) (l1 : List Int) : Option (Int) := if (l0.length : Int) = (l1.length : Int) then (integer_order.l0 k l0 l1 (wrap64 ((l0.length : Int) - 1))) else (if (l0.length : Int) < (l1.length : Int) then (some (-1)) else (some 1))
theorem integer_order.mono_l : ∀ k, (∀ y0 y1 y2, LeO (integer_order.l0 k y0 y1 y2) (integer_order.l0 (k + 1) y0 y1 y2))
 | 0 => fun _ _ _ r h => by simp [integer_order.l0] at h
 | k + 1 => by
  have ih0 := integer_order.mono_l k
  ·
   intro y0 y1 y2
   unfold integer_order.l0
   repeat' first
   | (with_reducible exact ih0 _ _ _)
   | (with_reducible exact LeO.refl _)
   | (with_reducible exact LeO.none _)
   | (with_reducible refine LeO.ite ?_ ?_)
   | (with_reducible refine LeO.bind ?_ (fun _ => ?_))
   | exact ih0 _ _ _
   | exact LeO.none _
   | refine LeO.ite ?_ ?_
   | refine LeO.bind ?_ (fun _ => ?_)
theorem integer_order.mono : ∀ a0 a1 k, LeO (integer_order.f k a0 a1) (integer_order.f (k + 1) a0 a1) := by
 intro a0 a1 k
 have ih0 := integer_order.mono_l k
 unfold integer_order.f
 repeat' first
   | (with_reducible exact ih0 _ _ _)
   | (with_reducible exact LeO.refl _)
   | (with_reducible exact LeO.none _)
   | (with_reducible refine LeO.ite ?_ ?_)
   | (with_reducible refine LeO.bind ?_ (fun _ => ?_))
   | exact ih0 _ _ _
   | exact LeO.none _
   | refine LeO.ite ?_ ?_
   | refine LeO.bind ?_ (fun _ => ?_)
set_option maxHeartbeats 8000000 in
set_option maxRecDepth 100000 in
theorem integer_order.calls (k : Nat) (A0 : Option Addr) (c0 : Nat) (l0 : List Int) (A1 : Option Addr) (c1 : Nat) (l1 : List Int) (r : Int) (w : World) (hr0 : Kd.C (Kd.int .u32) w A0 l0.length l0) (hc0 : l0.length ≤ c0) (hr1 : Kd.C (Kd.int .u32) w A1 l1.length l1) (hc1 : l1.length ≤ c1) (h : integer_order.f k l0 l1 = some r) :
  Calls Tryd.prog 52 #[.slice A0 l0.length c0, .slice A1 l1.length c1] w fun e w' => e = .returned (.int .i64 r) ∧ Drawn0 w w' := by
 have HR0 := Aside0.mk hr0
 have HC0 := Aside0.mk hc0
 clear hr0 hc0
 have HR1 := Aside0.mk hr1
 have HC1 := Aside0.mk hc1
 clear hr1 hc1
 have H : (if (l0.length : Int) = (l1.length : Int) then (integer_order.l0 k l0 l1 (wrap64 ((l0.length : Int) - 1))) else (if (l0.length : Int) < (l1.length : Int) then (some (-1)) else (some 1))) = some r := h
 clear h
 by_cases c3 : (l0.length : Int) = (l1.length : Int)
 ·
  rw [if_pos c3] at H
  have c3b0 : ((l0.length : Int) == (l1.length : Int)) = true := beq_iff_eq.mpr c3
  have c3b1 : ((l0.length : Int) != (l1.length : Int)) = false := bne_eq_false_iff_eq.mpr c3
  have c3b2 : (l0.length == l1.length) = true := by first | simpa using c3 | (simp at c3 ⊢; omega)
  clear c3
  have H' := Aside0.mk H
  clear H
  go_enter Tryd.func52, Tryd.ntmps52
  go_wp2
  repeat (go_quiet (fail); try go_wp2)
  go_loopg [5] k (fun kq v5 w' => ∃ (x5_1 : Int), v5 = .int .i64 x5_1 ∧ Aside0 (integer_order.l0 kq l0 l1 x5_1 = some r) ∧ Aside0 (kq ≤ k) ∧ Drawn0 w w')
  case atStart => exact ⟨(wrap64 ((l0.length : Int) - 1)), (by first | rfl | (simp; done) | (simp [*]; done) | (simp <;> omega)), H', ⟨Nat.le_refl _⟩, by repeat (first | exact Drawn0.refl _ | apply Drawn0.step)⟩
  case round =>
   clear H'
   try clear c1
   try clear p2
   try clear c3
   try clear c3b0
   try clear c3b1
   try clear c3b2
   obtain ⟨x5_1, rfl, HA, HK1, ⟨m1, rfl⟩⟩ := hrel
   cases gk with
   | zero => exact absurd HA.out (by simp [integer_order.l0])
   | succ k1 =>
    have H := HA.out
    clear HA
    simp only [integer_order.l0] at H
    by_cases c4 : x5_1 ≥ 0
    ·
     rw [if_pos c4] at H
     have c4b0 : decide (0 ≤ x5_1) = true := decide_eq_true c4
     clear c4
     by_cases c5 : 0 ≤ x5_1
     ·
      rw [if_pos c5] at H
      have c5b0 : decide (0 ≤ x5_1) = true := decide_eq_true c5
      clear c5
      by_cases c6 : x5_1 < (l0.length : Int)
      ·
       rw [if_pos c6] at H
       have c6b0 : decide (x5_1 < (l0.length : Int)) = true := decide_eq_true c6
       clear c6
       by_cases c7 : x5_1 < (l1.length : Int)
       ·
        rw [if_pos c7] at H
        have c7b0 : decide (x5_1 < (l1.length : Int)) = true := decide_eq_true c7
        clear c7
        by_cases c8 : (rd l0 x5_1) = (rd l1 x5_1)
        ·
         rw [if_pos c8] at H
         have c8b0 : ((rd l0 x5_1) == (rd l1 x5_1)) = true := beq_iff_eq.mpr c8
         have c8b1 : ((rd l0 x5_1) != (rd l1 x5_1)) = false := bne_eq_false_iff_eq.mpr c8
         clear c8
         have H' := Aside0.mk H
         clear H
         have p176 : 0 ≤ (x5_1 : Int) := of_decide_eq_true (by assumption)
         have q176 : x5_1 < (l0.length : Int) := of_decide_eq_true (by assumption)
         obtain ⟨ad176, e176, hx176_0⟩ := Kd.at_int HR0.out x5_1 p176 q176
         cases e176
         replace p176 := eq_true p176
         replace q176 := eq_true q176
         have p177 : 0 ≤ (x5_1 : Int) := of_decide_eq_true (by assumption)
         have q177 : x5_1 < (l1.length : Int) := of_decide_eq_true (by assumption)
         obtain ⟨ad177, e177, hx177_0⟩ := Kd.at_int HR1.out x5_1 p177 q177
         cases e177
         replace p177 := eq_true p177
         replace q177 := eq_true q177
         go_wp2
         repeat (go_quiet (fail); try go_wp2)
         go_roundg k1
         case measure => have := HK1.out; omega
         case rel => exact ⟨(wrap64 (x5_1 - 1)), (by first | rfl | (simp; done) | (simp [*]; done) | (simp <;> omega)), H', ⟨by have := HK1.out; omega⟩, by repeat (first | exact Drawn0.refl _ | apply Drawn0.step)⟩
        ·
         rw [if_neg c8] at H
         have c8b0 : ((rd l0 x5_1) == (rd l1 x5_1)) = false := beq_eq_false_iff_ne.mpr c8
         have c8b1 : ((rd l0 x5_1) != (rd l1 x5_1)) = true := bne_iff_ne.mpr c8
         by_cases c9 : (rd l0 x5_1) < (rd l1 x5_1)
         ·
          rw [if_pos c9] at H
          have c9b0 : decide ((rd l0 x5_1) < (rd l1 x5_1)) = true := decide_eq_true c9
          clear c9
          obtain rfl := Option.some.inj H
          have p176 : 0 ≤ (x5_1 : Int) := of_decide_eq_true (by assumption)
          have q176 : x5_1 < (l0.length : Int) := of_decide_eq_true (by assumption)
          obtain ⟨ad176, e176, hx176_0⟩ := Kd.at_int HR0.out x5_1 p176 q176
          cases e176
          replace p176 := eq_true p176
          replace q176 := eq_true q176
          have p177 : 0 ≤ (x5_1 : Int) := of_decide_eq_true (by assumption)
          have q177 : x5_1 < (l1.length : Int) := of_decide_eq_true (by assumption)
          obtain ⟨ad177, e177, hx177_0⟩ := Kd.at_int HR1.out x5_1 p177 q177
          cases e177
          replace p177 := eq_true p177
          replace q177 := eq_true q177
          have p178 : 0 ≤ (x5_1 : Int) := of_decide_eq_true (by assumption)
          have q178 : x5_1 < (l0.length : Int) := of_decide_eq_true (by assumption)
          obtain ⟨ad178, e178, hx178_0⟩ := Kd.at_int HR0.out x5_1 p178 q178
          obtain rfl : ad176 = ad178 := (by injection e178)
          replace p178 := eq_true p178
          replace q178 := eq_true q178
          have p179 : 0 ≤ (x5_1 : Int) := of_decide_eq_true (by assumption)
          have q179 : x5_1 < (l1.length : Int) := of_decide_eq_true (by assumption)
          obtain ⟨ad179, e179, hx179_0⟩ := Kd.at_int HR1.out x5_1 p179 q179
          obtain rfl : ad177 = ad179 := (by injection e179)
          replace p179 := eq_true p179
          replace q179 := eq_true q179
          go_wp2
          repeat (go_quiet (fail); try go_wp2)
          go_ret
          exact ⟨by first | rfl | (simp; done) | (simp [*]; done) | (simp <;> omega), by repeat (first | exact Drawn0.refl _ | apply Drawn0.step)⟩
         ·
          rw [if_neg c9] at H
          have c9b0 : decide ((rd l0 x5_1) < (rd l1 x5_1)) = false := decide_eq_false c9
          clear c9
          obtain rfl := Option.some.inj H
          have p176 : 0 ≤ (x5_1 : Int) := of_decide_eq_true (by assumption)
          have q176 : x5_1 < (l0.length : Int) := of_decide_eq_true (by assumption)
          obtain ⟨ad176, e176, hx176_0⟩ := Kd.at_int HR0.out x5_1 p176 q176
          cases e176
          replace p176 := eq_true p176
          replace q176 := eq_true q176
          have p177 : 0 ≤ (x5_1 : Int) := of_decide_eq_true (by assumption)
          have q177 : x5_1 < (l1.length : Int) := of_decide_eq_true (by assumption)
          obtain ⟨ad177, e177, hx177_0⟩ := Kd.at_int HR1.out x5_1 p177 q177
          cases e177
          replace p177 := eq_true p177
          replace q177 := eq_true q177
          have p178 : 0 ≤ (x5_1 : Int) := of_decide_eq_true (by assumption)
          have q178 : x5_1 < (l0.length : Int) := of_decide_eq_true (by assumption)
          obtain ⟨ad178, e178, hx178_0⟩ := Kd.at_int HR0.out x5_1 p178 q178
          obtain rfl : ad176 = ad178 := (by injection e178)
          replace p178 := eq_true p178
          replace q178 := eq_true q178
          have p179 : 0 ≤ (x5_1 : Int) := of_decide_eq_true (by assumption)
          have q179 : x5_1 < (l1.length : Int) := of_decide_eq_true (by assumption)
          obtain ⟨ad179, e179, hx179_0⟩ := Kd.at_int HR1.out x5_1 p179 q179
          obtain rfl : ad177 = ad179 := (by injection e179)
          replace p179 := eq_true p179
          replace q179 := eq_true q179
          go_wp2
          repeat (go_quiet (fail); try go_wp2)
          go_ret
          exact ⟨by first | rfl | (simp; done) | (simp [*]; done) | (simp <;> omega), by repeat (first | exact Drawn0.refl _ | apply Drawn0.step)⟩
       ·
        rw [if_neg c7] at H
        exact absurd H (by simp)
      ·
       rw [if_neg c6] at H
       exact absurd H (by simp)
     ·
      rw [if_neg c5] at H
      exact absurd H (by simp)
    ·
     rw [if_neg c4] at H
     have c4b0 : decide (0 ≤ x5_1) = false := decide_eq_false c4
     clear c4
     obtain rfl := Option.some.inj H
     go_wp2
     repeat (go_quiet (fail); try go_wp2)
     go_ret
     exact ⟨by first | rfl | (simp; done) | (simp [*]; done) | (simp <;> omega), by repeat (first | exact Drawn0.refl _ | apply Drawn0.step)⟩
 ·
  rw [if_neg c3] at H
  have c3b0 : ((l0.length : Int) == (l1.length : Int)) = false := beq_eq_false_iff_ne.mpr c3
  have c3b1 : ((l0.length : Int) != (l1.length : Int)) = true := bne_iff_ne.mpr c3
  have c3b2 : (l0.length == l1.length) = false := by first | simpa using c3 | (simp at c3 ⊢; omega)
  by_cases c10 : (l0.length : Int) < (l1.length : Int)
  ·
   rw [if_pos c10] at H
   have c10b0 : decide ((l0.length : Int) < (l1.length : Int)) = true := decide_eq_true c10
   have c10b1 : decide (l0.length < l1.length) = true := decide_eq_true (Int.ofNat_lt.mp c10)
   clear c10
   obtain rfl := Option.some.inj H
   go_enter Tryd.func52, Tryd.ntmps52
   go_wp2
   repeat (go_quiet (fail); try go_wp2)
   go_ret
   exact ⟨by first | rfl | (simp; done) | (simp [*]; done) | (simp <;> omega), by repeat (first | exact Drawn0.refl _ | apply Drawn0.step)⟩
  ·
   rw [if_neg c10] at H
   have c10b0 : decide ((l0.length : Int) < (l1.length : Int)) = false := decide_eq_false c10
   have c10b1 : decide (l0.length < l1.length) = false := decide_eq_false (fun h => c10 (Int.ofNat_lt.mpr h))
   clear c10
   obtain rfl := Option.some.inj H
   go_enter Tryd.func52, Tryd.ntmps52
   go_wp2
   repeat (go_quiet (fail); try go_wp2)
   go_ret
   exact ⟨by first | rfl | (simp; done) | (simp [*]; done) | (simp <;> omega), by repeat (first | exact Drawn0.refl _ | apply Drawn0.step)⟩
end Go.Proofs.YtiikfhdmclmjmaaDoor.P
