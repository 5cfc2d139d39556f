/- Packed by a program of this session (wip/tools/pack.py): the declarations of its texts that this claim needs. Not trusted: Lean checks it. -/
import Derived.Test.YtjolkombhdibcaaDoorBksA
import Derived.Shelf.Small.Bits
import Derived.Shelf.Small.Wraps
import Derived.Shelf.Strconv.Atoi
import Derived.Shelf.Strconv.Itoa0
import Derived.Shelf.Strconv.Itoa1
import Derived.Shelf.LaysM
import Derived.Shelf.Strconv.Itoa2
import Derived.Shelf.Strconv.Itoa3
import Derived.Shelf.Strconv.Itoa4
import Derived.Shelf.Strconv.AtoiErrFast
import Derived.Shelf.Strconv.ParseIntEmpty
import Derived.Shelf.Strconv.AtoiFail
import Derived.Shelf.Strconv.Clone
import Derived.Shelf.Strconv.SyntaxError
import Derived.Shelf.LaysC
import Derived.Shelf.Strconv.ToError
import Derived.Shelf.Strconv.Lower
import Derived.Shelf.Strconv.ParseUint10
import Derived.Shelf.Strconv.ParseUint10Empty
import Derived.Shelf.Strconv.ParseUint10Any
import Derived.Shelf.Strconv.ParseInt10
import Derived.Shelf.Strconv.AtoiLong
import Derived.Shelf.Strconv.AtoiInnerAll
import Derived.Shelf.Strconv.RangeError
import Derived.Shelf.Strconv.ToErrorRange
import Derived.Shelf.Strconv.AtoiAll
import Derived.Shelf.Strconv.ErrVarAll
import Derived.Shelf.Strconv.ParseUintEmpty
import Derived.Shelf.Strconv.ParseUint10b64
import Derived.Shelf.Strconv.ParseUint10b32
import Derived.Shelf.Strconv.ParseUint10b16
import Derived.Shelf.Strconv.ParseUint10b8
import Derived.Shelf.Strconv.ParseUint10At
import Derived.Shelf.Strconv.ParseInt10At64
import Derived.Shelf.Strconv.ParseInt10At32
import Derived.Shelf.Strconv.ParseInt10At16
import Derived.Shelf.Strconv.ParseInt10At8
import Derived.Shelf.Strconv.ParseInt10All
import Derived.Shelf.Strconv.ParseIntPublic10
import Derived.Shelf.Strconv.ErrVarParseInt
import Derived.Shelf.Strings.Prefix
import Derived.Shelf.Spec.TrailingZeros
import Derived.WalkSmall
import Derived.Lib.Hide
import Derived.Laws.Externs
import Derived.WalkLawsBesides
import Derived.WalkSpells
import Derived.Test.YtjolkombhdibcaaDoorRows
import Derived.Stop.LaidErr
import Derived.Lib.LaidTab
import Derived.LaidMore
import Derived.Stop.Joined
import Derived.ProofKit
import Derived.OpenShut
import Derived.ShutString
import Derived.Laws.Strings
import Derived.Lib.ItoaNum
import Derived.Lib.ParseIntB
import Derived.Lib.AtoiAll
import Derived.Lib.TrailingZeros
import Derived.LoopTactic
import Derived.Outline
import Derived.RegionTactic
section
namespace Go.Proofs
open Go.Shelf
def Tryd.lays103_ren : Go.Shelf.Ren := ⟨fun | 103 => 23 | 210 => 45 | 206 => 58 | n => n, fun | 9 => 9 | 4 => 4 | 24 => 57 | 3 => 3 | n => n, fun | n => n⟩
theorem Tryd.lays103 : Go.Proofs.Lays.n103 Tryd.prog Tryd.lays103_ren := {
  mixed := by kernel_rfl
  f103 := Tryd.func23.trans (congrArg some (by kernel_rfl))
  f206 := Tryd.func58.trans (congrArg some (by kernel_rfl))
  f210 := Tryd.func45.trans (congrArg some (by kernel_rfl))
  t3 := Tryd.underlying3
  a3 := Tryd.isAgg3
  z3 := Tryd.sizeOf3
  v3 := Tryd.zeroValue3
  t4 := Tryd.underlying4
  a4 := Tryd.isAgg4
  z4 := Tryd.sizeOf4
  v4 := Tryd.zeroValue4
  t9 := Tryd.underlying9
  a9 := Tryd.isAgg9
  z9 := Tryd.sizeOf9
  v9 := Tryd.zeroValue9
  t24 := Tryd.underlying57
  a24 := Tryd.isAgg57
  z24 := Tryd.sizeOf57
  v24 := Tryd.zeroValue57 }
open Go.RowKit in

theorem Tryd.strings_CutPrefix (s p : ByteArray) (w : World) :
    Calls Tryd.prog 23 #[.string s, .string p] w fun e w' => e = .returned (.tuple #[.string ⟨(Lib.trimPrefix s.data.toList p.data.toList).toArray⟩, .bool (Lib.hasPrefix s.data.toList p.data.toList)]) ∧ w' = w := Any.strings_CutPrefix Tryd.lays103 s p w
def Tryd.lays129_ren : Go.Shelf.Ren := ⟨fun | 129 => 49 | n => n, fun | 53 => 28 | 3 => 3 | 4 => 4 | 46 => 71 | 5 => 5 | 9 => 9 | n => n, fun | n => n⟩
theorem Tryd.lays129 : Go.Proofs.Lays.n129 Tryd.prog Tryd.lays129_ren := {
  mixed := by kernel_rfl
  f129 := Tryd.func49.trans (congrArg some (by kernel_rfl))
  t3 := Tryd.underlying3
  a3 := Tryd.isAgg3
  z3 := Tryd.sizeOf3
  v3 := Tryd.zeroValue3
  t4 := Tryd.underlying4
  a4 := Tryd.isAgg4
  z4 := Tryd.sizeOf4
  v4 := Tryd.zeroValue4
  t5 := Tryd.underlying5
  a5 := Tryd.isAgg5
  z5 := Tryd.sizeOf5
  v5 := Tryd.zeroValue5
  t9 := Tryd.underlying9
  a9 := Tryd.isAgg9
  z9 := Tryd.sizeOf9
  v9 := Tryd.zeroValue9
  t46 := Tryd.underlying71
  a46 := Tryd.isAgg71
  z46 := Tryd.sizeOf71
  v46 := Tryd.zeroValue71
  t53 := Tryd.underlying28
  a53 := Tryd.isAgg28
  z53 := Tryd.sizeOf28
  v53 := Tryd.zeroValue28 }
theorem Tryd.bits_Len64 (x : Int) (w : World) (h0 : 0 ≤ x) (h1 : x ≤ 18446744073709551615) :
    Calls Tryd.prog 49 #[.int .u64 x] w fun e w' => e = .returned (.int .i64 (Lib.bitLen x.toNat)) ∧ w' = w := Any.bits_Len64 Tryd.lays129 x w h0 h1
open Go.RowKit Go.Sort Go.Lib in

def Tryd.laysC172_ren : Go.Shelf.Ren := ⟨fun | 172 => 26 | 244 => 46 | 245 => 47 | 247 => 65 | 279 => 66 | 280 => 67 | 281 => 68 | 282 => 69 | 287 => 80 | 316 => 81 | 171 => 83 | 205 => 82 | 321 => 89 | 322 => 90 | 243 => 91 | 246 => 64 | 283 => 76 | 284 => 77 | 285 => 78 | 286 => 79 | 129 => 49 | 317 => 85 | 318 => 86 | 319 => 87 | 320 => 88 | 337 => 92 | 338 => 48 | n => n, fun | 9 => 9 | 3 => 3 | 75 => 64 | 76 => 65 | 4 => 4 | 5 => 5 | 167 => 81 | 37 => 36 | 0 => 0 | 85 => 82 | 2 => 2 | 168 => 84 | 53 => 28 | 175 => 97 | 46 => 71 | 210 => 101 | 127 => 110 | 145 => 113 | 143 => 111 | 21 => 21 | 171 => 93 | 173 => 95 | 212 => 105 | 51 => 106 | 20 => 20 | 213 => 107 | 232 => 115 | 233 => 87 | 80 => 116 | n => n, fun | 15 => 1 | 16 => 2 | 17 => 3 | 18 => 4 | 19 => 0 | n => n⟩
theorem Tryd.laysC172 : Go.Proofs.LaysC.n172 Tryd.prog Tryd.laysC172_ren := {
  mixed := by kernel_rfl
  f129 := Tryd.func49.trans (congrArg some (by kernel_rfl))
  f171 := Tryd.func83.trans (congrArg some (by kernel_rfl))
  f172 := Tryd.func26.trans (congrArg some (by kernel_rfl))
  f205 := Tryd.func82.trans (congrArg some (by kernel_rfl))
  f243 := Tryd.func91.trans (congrArg some (by kernel_rfl))
  f244 := Tryd.func46.trans (congrArg some (by kernel_rfl))
  f245 := Tryd.func47.trans (congrArg some (by kernel_rfl))
  f246 := Tryd.func64.trans (congrArg some (by kernel_rfl))
  f247 := Tryd.func65.trans (congrArg some (by kernel_rfl))
  f279 := Tryd.func66.trans (congrArg some (by kernel_rfl))
  f280 := Tryd.func67.trans (congrArg some (by kernel_rfl))
  f281 := Tryd.func68.trans (congrArg some (by kernel_rfl))
  f282 := Tryd.func69.trans (congrArg some (by kernel_rfl))
  f283 := Tryd.func76.trans (congrArg some (by kernel_rfl))
  f284 := Tryd.func77.trans (congrArg some (by kernel_rfl))
  f285 := Tryd.func78.trans (congrArg some (by kernel_rfl))
  f286 := Tryd.func79.trans (congrArg some (by kernel_rfl))
  f287 := Tryd.func80.trans (congrArg some (by kernel_rfl))
  f316 := Tryd.func81.trans (congrArg some (by kernel_rfl))
  f317 := Tryd.func85.trans (congrArg some (by kernel_rfl))
  f318 := Tryd.func86.trans (congrArg some (by kernel_rfl))
  f319 := Tryd.func87.trans (congrArg some (by kernel_rfl))
  f320 := Tryd.func88.trans (congrArg some (by kernel_rfl))
  f321 := Tryd.func89.trans (congrArg some (by kernel_rfl))
  f322 := Tryd.func90.trans (congrArg some (by kernel_rfl))
  f337 := Tryd.func92.trans (congrArg some (by kernel_rfl))
  f338 := Tryd.func48.trans (congrArg some (by kernel_rfl))
  t0 := Tryd.underlying0
  a0 := Tryd.isAgg0
  z0 := Tryd.sizeOf0
  v0 := Tryd.zeroValue0
  t2 := Tryd.underlying2
  a2 := Tryd.isAgg2
  z2 := Tryd.sizeOf2
  v2 := Tryd.zeroValue2
  t3 := Tryd.underlying3
  a3 := Tryd.isAgg3
  z3 := Tryd.sizeOf3
  v3 := Tryd.zeroValue3
  t4 := Tryd.underlying4
  a4 := Tryd.isAgg4
  z4 := Tryd.sizeOf4
  v4 := Tryd.zeroValue4
  t5 := Tryd.underlying5
  a5 := Tryd.isAgg5
  z5 := Tryd.sizeOf5
  v5 := Tryd.zeroValue5
  t9 := Tryd.underlying9
  a9 := Tryd.isAgg9
  z9 := Tryd.sizeOf9
  v9 := Tryd.zeroValue9
  t20 := Tryd.underlying20
  a20 := Tryd.isAgg20
  z20 := Tryd.sizeOf20
  v20 := Tryd.zeroValue20
  t21 := Tryd.underlying21
  a21 := Tryd.isAgg21
  z21 := Tryd.sizeOf21
  v21 := Tryd.zeroValue21
  t37 := Tryd.underlying36
  a37 := Tryd.isAgg36
  z37 := Tryd.sizeOf36
  v37 := Tryd.zeroValue36
  t46 := Tryd.underlying71
  a46 := Tryd.isAgg71
  z46 := Tryd.sizeOf71
  v46 := Tryd.zeroValue71
  t51 := Tryd.underlying106
  a51 := Tryd.isAgg106
  z51 := Tryd.sizeOf106
  v51 := Tryd.zeroValue106
  t53 := Tryd.underlying28
  a53 := Tryd.isAgg28
  z53 := Tryd.sizeOf28
  v53 := Tryd.zeroValue28
  t75 := Tryd.underlying64
  a75 := Tryd.isAgg64
  z75 := Tryd.sizeOf64
  v75 := Tryd.zeroValue64
  t76 := Tryd.underlying65
  a76 := Tryd.isAgg65
  z76 := Tryd.sizeOf65
  v76 := Tryd.zeroValue65
  t85 := Tryd.underlying82
  a85 := Tryd.isAgg82
  z85 := Tryd.sizeOf82
  v85 := Tryd.zeroValue82
  t127 := Tryd.underlying110
  a127 := Tryd.isAgg110
  z127 := Tryd.sizeOf110
  v127 := Tryd.zeroValue110
  t143 := Tryd.underlying111
  a143 := Tryd.isAgg111
  z143 := Tryd.sizeOf111
  v143 := Tryd.zeroValue111
  t145 := Tryd.underlying113
  a145 := Tryd.isAgg113
  z145 := Tryd.sizeOf113
  v145 := Tryd.zeroValue113
  t167 := Tryd.underlying81
  a167 := Tryd.isAgg81
  z167 := Tryd.sizeOf81
  v167 := Tryd.zeroValue81
  t168 := Tryd.underlying84
  a168 := Tryd.isAgg84
  z168 := Tryd.sizeOf84
  v168 := Tryd.zeroValue84
  t171 := Tryd.underlying93
  a171 := Tryd.isAgg93
  z171 := Tryd.sizeOf93
  v171 := Tryd.zeroValue93
  t173 := Tryd.underlying95
  a173 := Tryd.isAgg95
  z173 := Tryd.sizeOf95
  v173 := Tryd.zeroValue95
  t175 := Tryd.underlying97
  a175 := Tryd.isAgg97
  z175 := Tryd.sizeOf97
  v175 := Tryd.zeroValue97
  t210 := Tryd.underlying101
  a210 := Tryd.isAgg101
  z210 := Tryd.sizeOf101
  v210 := Tryd.zeroValue101
  t212 := Tryd.underlying105
  a212 := Tryd.isAgg105
  z212 := Tryd.sizeOf105
  v212 := Tryd.zeroValue105
  t213 := Tryd.underlying107
  a213 := Tryd.isAgg107
  z213 := Tryd.sizeOf107
  t232 := Tryd.underlying115
  a232 := Tryd.isAgg115
  z232 := Tryd.sizeOf115
  v232 := Tryd.zeroValue115
  t233 := Tryd.underlying87
  a233 := Tryd.isAgg87
  z233 := Tryd.sizeOf87
  v233 := Tryd.zeroValue87
  g15 := by kernel_rfl
  g16 := by kernel_rfl
  g17 := by kernel_rfl
  g18 := by kernel_rfl
  g19 := by kernel_rfl
  t80 := Tryd.underlying116
  a80 := Tryd.isAgg116
  z80 := Tryd.sizeOf116
  v80 := Tryd.zeroValue116
  i0 := by kernel_rfl
  i2 := by kernel_rfl
  i3 := by kernel_rfl
  i4 := by kernel_rfl
  i5 := by kernel_rfl
  i9 := by kernel_rfl
  i20 := by kernel_rfl
  i21 := by kernel_rfl
  i37 := by kernel_rfl
  i46 := by kernel_rfl
  i51 := by kernel_rfl
  i53 := by kernel_rfl
  i75 := by kernel_rfl
  i76 := by kernel_rfl
  i80 := by kernel_rfl
  i85 := by kernel_rfl
  i127 := by kernel_rfl
  i143 := by kernel_rfl
  i145 := by kernel_rfl
  i167 := by kernel_rfl
  i168 := by kernel_rfl
  i171 := by kernel_rfl
  i173 := by kernel_rfl
  i175 := by kernel_rfl
  i210 := by kernel_rfl
  i212 := by kernel_rfl
  i232 := by kernel_rfl
  i233 := by kernel_rfl
  m15 := by kernel_rfl
  m16 := by kernel_rfl
  m17 := by kernel_rfl
  m18 := by kernel_rfl
  m19 := by kernel_rfl
  c0 := by kernel_rfl
  c2 := by kernel_rfl
  c3 := by kernel_rfl
  c4 := by kernel_rfl
  c5 := by kernel_rfl
  c9 := by kernel_rfl
  c20 := by kernel_rfl
  c21 := by kernel_rfl
  c37 := by kernel_rfl
  c46 := by kernel_rfl
  c51 := by kernel_rfl
  c53 := by kernel_rfl
  c75 := by kernel_rfl
  c76 := by kernel_rfl
  c80 := by kernel_rfl
  c85 := by kernel_rfl
  c127 := by kernel_rfl
  c143 := by kernel_rfl
  c145 := by kernel_rfl
  c167 := by kernel_rfl
  c168 := by kernel_rfl
  c171 := by kernel_rfl
  c173 := by kernel_rfl
  c175 := by kernel_rfl
  c210 := by kernel_rfl
  c212 := by kernel_rfl
  c213 := by kernel_rfl
  c232 := by kernel_rfl
  c233 := by kernel_rfl }
open Go.RowKit in

theorem Tryd.strconv_Atoi_ok (s : ByteArray) (hmax : s.size ≤ 9223372036854775806) (v : Int) (h : Lib.atoiAll s.data.toList = .ok v) (w : World) :
    Calls Tryd.prog 26 #[.string s] w fun e w' => e = .returned (.tuple #[.int .i64 v, .nilIface]) ∧ (w' = w ∨ ∃ t, w' = Lib.bytesWorld w 5 t) := Any.strconv_Atoi_ok Tryd.laysC172 s hmax v h w
def Tryd.laysC174_ren : Go.Shelf.Ren := ⟨fun | 174 => 75 | 247 => 65 | 245 => 47 | 287 => 80 | 279 => 66 | 280 => 67 | 281 => 68 | 282 => 69 | 321 => 89 | 322 => 90 | 316 => 81 | 171 => 83 | 205 => 82 | 243 => 91 | 246 => 64 | 283 => 76 | 284 => 77 | 285 => 78 | 286 => 79 | 129 => 49 | 317 => 85 | 318 => 86 | 319 => 87 | 320 => 88 | 337 => 92 | 338 => 48 | n => n, fun | 9 => 9 | 3 => 3 | 2 => 2 | 75 => 64 | 85 => 82 | 4 => 4 | 167 => 81 | 5 => 5 | 53 => 28 | 175 => 97 | 46 => 71 | 168 => 84 | 37 => 36 | 0 => 0 | 210 => 101 | 21 => 21 | 127 => 110 | 145 => 113 | 143 => 111 | 171 => 93 | 173 => 95 | 212 => 105 | 51 => 106 | 20 => 20 | 213 => 107 | 232 => 115 | 233 => 87 | 80 => 116 | n => n, fun | 15 => 1 | 16 => 2 | 17 => 3 | 18 => 4 | 19 => 0 | n => n⟩
theorem Tryd.laysC174 : Go.Proofs.LaysC.n174 Tryd.prog Tryd.laysC174_ren := {
  mixed := by kernel_rfl
  f129 := Tryd.func49.trans (congrArg some (by kernel_rfl))
  f171 := Tryd.func83.trans (congrArg some (by kernel_rfl))
  f174 := Tryd.func75.trans (congrArg some (by kernel_rfl))
  f205 := Tryd.func82.trans (congrArg some (by kernel_rfl))
  f243 := Tryd.func91.trans (congrArg some (by kernel_rfl))
  f245 := Tryd.func47.trans (congrArg some (by kernel_rfl))
  f246 := Tryd.func64.trans (congrArg some (by kernel_rfl))
  f247 := Tryd.func65.trans (congrArg some (by kernel_rfl))
  f279 := Tryd.func66.trans (congrArg some (by kernel_rfl))
  f280 := Tryd.func67.trans (congrArg some (by kernel_rfl))
  f281 := Tryd.func68.trans (congrArg some (by kernel_rfl))
  f282 := Tryd.func69.trans (congrArg some (by kernel_rfl))
  f283 := Tryd.func76.trans (congrArg some (by kernel_rfl))
  f284 := Tryd.func77.trans (congrArg some (by kernel_rfl))
  f285 := Tryd.func78.trans (congrArg some (by kernel_rfl))
  f286 := Tryd.func79.trans (congrArg some (by kernel_rfl))
  f287 := Tryd.func80.trans (congrArg some (by kernel_rfl))
  f316 := Tryd.func81.trans (congrArg some (by kernel_rfl))
  f317 := Tryd.func85.trans (congrArg some (by kernel_rfl))
  f318 := Tryd.func86.trans (congrArg some (by kernel_rfl))
  f319 := Tryd.func87.trans (congrArg some (by kernel_rfl))
  f320 := Tryd.func88.trans (congrArg some (by kernel_rfl))
  f321 := Tryd.func89.trans (congrArg some (by kernel_rfl))
  f322 := Tryd.func90.trans (congrArg some (by kernel_rfl))
  f337 := Tryd.func92.trans (congrArg some (by kernel_rfl))
  f338 := Tryd.func48.trans (congrArg some (by kernel_rfl))
  t0 := Tryd.underlying0
  a0 := Tryd.isAgg0
  z0 := Tryd.sizeOf0
  v0 := Tryd.zeroValue0
  t2 := Tryd.underlying2
  a2 := Tryd.isAgg2
  z2 := Tryd.sizeOf2
  v2 := Tryd.zeroValue2
  t3 := Tryd.underlying3
  a3 := Tryd.isAgg3
  z3 := Tryd.sizeOf3
  v3 := Tryd.zeroValue3
  t4 := Tryd.underlying4
  a4 := Tryd.isAgg4
  z4 := Tryd.sizeOf4
  v4 := Tryd.zeroValue4
  t5 := Tryd.underlying5
  a5 := Tryd.isAgg5
  z5 := Tryd.sizeOf5
  v5 := Tryd.zeroValue5
  t9 := Tryd.underlying9
  a9 := Tryd.isAgg9
  z9 := Tryd.sizeOf9
  v9 := Tryd.zeroValue9
  t20 := Tryd.underlying20
  a20 := Tryd.isAgg20
  z20 := Tryd.sizeOf20
  v20 := Tryd.zeroValue20
  t21 := Tryd.underlying21
  a21 := Tryd.isAgg21
  z21 := Tryd.sizeOf21
  v21 := Tryd.zeroValue21
  t37 := Tryd.underlying36
  a37 := Tryd.isAgg36
  z37 := Tryd.sizeOf36
  v37 := Tryd.zeroValue36
  t46 := Tryd.underlying71
  a46 := Tryd.isAgg71
  z46 := Tryd.sizeOf71
  v46 := Tryd.zeroValue71
  t51 := Tryd.underlying106
  a51 := Tryd.isAgg106
  z51 := Tryd.sizeOf106
  v51 := Tryd.zeroValue106
  t53 := Tryd.underlying28
  a53 := Tryd.isAgg28
  z53 := Tryd.sizeOf28
  v53 := Tryd.zeroValue28
  t75 := Tryd.underlying64
  a75 := Tryd.isAgg64
  z75 := Tryd.sizeOf64
  v75 := Tryd.zeroValue64
  t85 := Tryd.underlying82
  a85 := Tryd.isAgg82
  z85 := Tryd.sizeOf82
  v85 := Tryd.zeroValue82
  t127 := Tryd.underlying110
  a127 := Tryd.isAgg110
  z127 := Tryd.sizeOf110
  v127 := Tryd.zeroValue110
  t143 := Tryd.underlying111
  a143 := Tryd.isAgg111
  z143 := Tryd.sizeOf111
  v143 := Tryd.zeroValue111
  t145 := Tryd.underlying113
  a145 := Tryd.isAgg113
  z145 := Tryd.sizeOf113
  v145 := Tryd.zeroValue113
  t167 := Tryd.underlying81
  a167 := Tryd.isAgg81
  z167 := Tryd.sizeOf81
  v167 := Tryd.zeroValue81
  t168 := Tryd.underlying84
  a168 := Tryd.isAgg84
  z168 := Tryd.sizeOf84
  v168 := Tryd.zeroValue84
  t171 := Tryd.underlying93
  a171 := Tryd.isAgg93
  z171 := Tryd.sizeOf93
  v171 := Tryd.zeroValue93
  t173 := Tryd.underlying95
  a173 := Tryd.isAgg95
  z173 := Tryd.sizeOf95
  v173 := Tryd.zeroValue95
  t175 := Tryd.underlying97
  a175 := Tryd.isAgg97
  z175 := Tryd.sizeOf97
  v175 := Tryd.zeroValue97
  t210 := Tryd.underlying101
  a210 := Tryd.isAgg101
  z210 := Tryd.sizeOf101
  v210 := Tryd.zeroValue101
  t212 := Tryd.underlying105
  a212 := Tryd.isAgg105
  z212 := Tryd.sizeOf105
  v212 := Tryd.zeroValue105
  t213 := Tryd.underlying107
  a213 := Tryd.isAgg107
  z213 := Tryd.sizeOf107
  t232 := Tryd.underlying115
  a232 := Tryd.isAgg115
  z232 := Tryd.sizeOf115
  v232 := Tryd.zeroValue115
  t233 := Tryd.underlying87
  a233 := Tryd.isAgg87
  z233 := Tryd.sizeOf87
  v233 := Tryd.zeroValue87
  g15 := by kernel_rfl
  g16 := by kernel_rfl
  g17 := by kernel_rfl
  g18 := by kernel_rfl
  g19 := by kernel_rfl
  t80 := Tryd.underlying116
  a80 := Tryd.isAgg116
  z80 := Tryd.sizeOf116
  v80 := Tryd.zeroValue116
  i0 := by kernel_rfl
  i2 := by kernel_rfl
  i3 := by kernel_rfl
  i4 := by kernel_rfl
  i5 := by kernel_rfl
  i9 := by kernel_rfl
  i20 := by kernel_rfl
  i21 := by kernel_rfl
  i37 := by kernel_rfl
  i46 := by kernel_rfl
  i51 := by kernel_rfl
  i53 := by kernel_rfl
  i75 := by kernel_rfl
  i80 := by kernel_rfl
  i85 := by kernel_rfl
  i127 := by kernel_rfl
  i143 := by kernel_rfl
  i145 := by kernel_rfl
  i167 := by kernel_rfl
  i168 := by kernel_rfl
  i171 := by kernel_rfl
  i173 := by kernel_rfl
  i175 := by kernel_rfl
  i210 := by kernel_rfl
  i212 := by kernel_rfl
  i232 := by kernel_rfl
  i233 := by kernel_rfl
  m15 := by kernel_rfl
  m16 := by kernel_rfl
  m17 := by kernel_rfl
  m18 := by kernel_rfl
  m19 := by kernel_rfl
  c0 := by kernel_rfl
  c2 := by kernel_rfl
  c3 := by kernel_rfl
  c4 := by kernel_rfl
  c5 := by kernel_rfl
  c9 := by kernel_rfl
  c20 := by kernel_rfl
  c21 := by kernel_rfl
  c37 := by kernel_rfl
  c46 := by kernel_rfl
  c51 := by kernel_rfl
  c53 := by kernel_rfl
  c75 := by kernel_rfl
  c80 := by kernel_rfl
  c85 := by kernel_rfl
  c127 := by kernel_rfl
  c143 := by kernel_rfl
  c145 := by kernel_rfl
  c167 := by kernel_rfl
  c168 := by kernel_rfl
  c171 := by kernel_rfl
  c173 := by kernel_rfl
  c175 := by kernel_rfl
  c210 := by kernel_rfl
  c212 := by kernel_rfl
  c213 := by kernel_rfl
  c232 := by kernel_rfl
  c233 := by kernel_rfl }
open Go.RowKit in

theorem Tryd.strconv_ParseInt_10_at64_ok (s : ByteArray) (hmax : s.size ≤ 9223372036854775806) (v : Int) (h : Lib.parseIntB 64 s.data.toList = .ok v) (w : World) :
    Calls Tryd.prog 75 #[.string s, .int .i64 10, .int .i64 64] w fun e w' => e = .returned (.tuple #[.int .i64 v, .nilIface]) ∧ (w' = w ∨ ∃ t, w' = Lib.bytesWorld w 5 t) := Any.strconv_ParseInt_10_at64_ok Tryd.laysC174 s hmax v h w
open Go.RowKit in
theorem Tryd.strconv_ParseInt_10_at64_range_var (s : ByteArray) (hlim : s.size ≤ 281474976710656) (h : Lib.parseIntB 64 s.data.toList = .range) (tp : TypeId) (p : Value) (w : World) (hvar : w.var? Tryd.prog "strconv.ErrRange" = some #[.iface tp p]) :
    Calls Tryd.prog 75 #[.string s, .int .i64 10, .int .i64 64] w fun e w' => ∃ N, e = .returned (.tuple #[.int .i64 (Lib.intSat 64 s.data.toList), .iface 84 (.pointer (some ⟨N, 0, none⟩))]) ∧ w.heap.size ≤ N ∧ w'.heap[N]? = some (.cells #[.string ⟨#[80, 97, 114, 115, 101, 73, 110, 116]⟩, .string s, .iface tp p] 101 (0, 0)) ∧ Below w.heap.size w w' := Any.strconv_ParseInt_10_at64_range_var Tryd.laysC174 s hlim h tp p w hvar
def Tryd.lays99_ren : Go.Shelf.Ren := ⟨fun | 99 => 37 | 206 => 58 | n => n, fun | 9 => 9 | 4 => 4 | 3 => 3 | n => n, fun | n => n⟩
theorem Tryd.lays99 : Go.Proofs.Lays.n99 Tryd.prog Tryd.lays99_ren := {
  mixed := by kernel_rfl
  f99 := Tryd.func37.trans (congrArg some (by kernel_rfl))
  f206 := Tryd.func58.trans (congrArg some (by kernel_rfl))
  t3 := Tryd.underlying3
  a3 := Tryd.isAgg3
  z3 := Tryd.sizeOf3
  v3 := Tryd.zeroValue3
  t4 := Tryd.underlying4
  a4 := Tryd.isAgg4
  z4 := Tryd.sizeOf4
  v4 := Tryd.zeroValue4
  t9 := Tryd.underlying9
  a9 := Tryd.isAgg9
  z9 := Tryd.sizeOf9
  v9 := Tryd.zeroValue9 }
open Go.RowKit Go.Lib in

theorem Tryd.strings_HasPrefix (s p : ByteArray) (w : World) :
    Calls Tryd.prog 37 #[.string s, .string p] w fun e w' => e = .returned (.bool (Lib.hasPrefix s.data.toList p.data.toList)) ∧ w' = w := Any.strings_HasPrefix Tryd.lays99 s p w
def Tryd.lays101_ren : Go.Shelf.Ren := ⟨fun | 101 => 74 | 208 => 84 | 206 => 58 | n => n, fun | 9 => 9 | 4 => 4 | 3 => 3 | n => n, fun | n => n⟩
theorem Tryd.lays101 : Go.Proofs.Lays.n101 Tryd.prog Tryd.lays101_ren := {
  mixed := by kernel_rfl
  f101 := Tryd.func74.trans (congrArg some (by kernel_rfl))
  f206 := Tryd.func58.trans (congrArg some (by kernel_rfl))
  f208 := Tryd.func84.trans (congrArg some (by kernel_rfl))
  t3 := Tryd.underlying3
  a3 := Tryd.isAgg3
  z3 := Tryd.sizeOf3
  v3 := Tryd.zeroValue3
  t4 := Tryd.underlying4
  a4 := Tryd.isAgg4
  z4 := Tryd.sizeOf4
  v4 := Tryd.zeroValue4
  t9 := Tryd.underlying9
  a9 := Tryd.isAgg9
  z9 := Tryd.sizeOf9
  v9 := Tryd.zeroValue9 }
open Go.RowKit Go.Lib in

theorem Tryd.strings_TrimPrefix (s p : ByteArray) (w : World) :
    Calls Tryd.prog 74 #[.string s, .string p] w fun e w' => e = .returned (.string ⟨(Lib.trimPrefix s.data.toList p.data.toList).toArray⟩) ∧ w' = w := Any.strings_TrimPrefix Tryd.lays101 s p w
end Go.Proofs
end
section
namespace Go.Proofs
open Go.Shelf
def Tryd.lays7n29_ren : Go.Shelf.Ren := ⟨fun | 29 => 48 | n => n, fun | 22 => 28 | 3 => 3 | 4 => 4 | 25 => 71 | 54 => 87 | 0 => 0 | 5 => 5 | n => n, fun | 1 => 0 | n => n⟩
theorem Tryd.lays7n29 : Go.Proofs.Lays7.n29 Tryd.prog Tryd.lays7n29_ren := {
  mixed := by kernel_rfl
  f29 := Tryd.func48.trans (congrArg some (by kernel_rfl))
  t0 := Tryd.underlying0
  a0 := Tryd.isAgg0
  z0 := Tryd.sizeOf0
  v0 := Tryd.zeroValue0
  i0 := by kernel_rfl
  t3 := Tryd.underlying3
  a3 := Tryd.isAgg3
  z3 := Tryd.sizeOf3
  v3 := Tryd.zeroValue3
  i3 := by kernel_rfl
  t4 := Tryd.underlying4
  a4 := Tryd.isAgg4
  z4 := Tryd.sizeOf4
  v4 := Tryd.zeroValue4
  i4 := by kernel_rfl
  t5 := Tryd.underlying5
  a5 := Tryd.isAgg5
  z5 := Tryd.sizeOf5
  v5 := Tryd.zeroValue5
  i5 := by kernel_rfl
  t22 := Tryd.underlying28
  a22 := Tryd.isAgg28
  z22 := Tryd.sizeOf28
  v22 := Tryd.zeroValue28
  i22 := by kernel_rfl
  t25 := Tryd.underlying71
  a25 := Tryd.isAgg71
  z25 := Tryd.sizeOf71
  v25 := Tryd.zeroValue71
  i25 := by kernel_rfl
  t54 := Tryd.underlying87
  a54 := Tryd.isAgg87
  z54 := Tryd.sizeOf87
  g1 := by kernel_rfl }
end Go.Proofs
namespace Go.Proofs.YtjolkombhdibcaaDoor.Given
open Go.RowKit Go.Shelf Go.Proofs.YtjolkombhdibcaaDoorW.PrintWords
def Glob (w : World) : Prop :=
  Lib.TabIs Tryd.prog w "internal/strconv.uint64pow10" .u64 Lib.pow10Tab ∧ TabAt 0 Lib.deBruijn64tab w ∧
  (∃ tp p, w.var? Tryd.prog "strconv.ErrSyntax" = some #[.iface tp p]) ∧ (∃ tp p, w.var? Tryd.prog "strconv.ErrRange" = some #[.iface tp p]) ∧ 5 ≤ w.heap.size
theorem g_pow : Tryd.prog.globalNamed "internal/strconv.uint64pow10" = some 3 := by kernel_rfl
theorem g_syn : Tryd.prog.globalNamed "strconv.ErrSyntax" = some 1 := by kernel_rfl
theorem g_rng : Tryd.prog.globalNamed "strconv.ErrRange" = some 2 := by kernel_rfl
theorem Glob.at_ {w w' : World} (h : Glob w) (hb : Below w.heap.size w w') : Glob w' := by
  obtain ⟨h1, h2, ⟨t3, p3, h3⟩, ⟨t4, p4, h4⟩, h5⟩ := h
  refine ⟨var?_below hb g_pow (by omega) h1, fun j hj => ?_, ⟨t3, p3, var?_below hb g_syn (by omega) h3⟩, ⟨t4, p4, var?_below hb g_rng (by omega) h4⟩, Nat.le_trans h5 hb.size⟩
  rw [hb.cell (p := ⟨0, j, none⟩) (by simp; omega)]; exact h2 j hj
def strings_CutPrefix.f (a0 a1 : ByteArray) : Option (ByteArray × Bool) := some (⟨(Lib.trimPrefix a0.data.toList a1.data.toList).toArray⟩, Lib.hasPrefix a0.data.toList a1.data.toList)
theorem strings_CutPrefix.calls (a0 a1 : ByteArray) (r1 : ByteArray) (r2 : Bool) (w : World) (h : strings_CutPrefix.f a0 a1 = some (r1, r2)) :
    Calls Tryd.prog 23 #[.string a0, .string a1] w fun e w' => e = .returned (.tuple #[.string r1, .bool r2]) ∧ Drawn0 w w' := by
  simp only [strings_CutPrefix.f, Option.some.injEq, Prod.mk.injEq] at h
  obtain ⟨rfl, rfl⟩ := h
  refine (Tryd.strings_CutPrefix a0 a1 w).mono ?_
  rintro e w' ⟨rfl, rfl⟩
  exact ⟨rfl, Drawn0.refl _⟩
def strings_HasPrefix.f (a0 a1 : ByteArray) : Option Bool := some (Lib.hasPrefix a0.data.toList a1.data.toList)
theorem strings_HasPrefix.calls (a0 a1 : ByteArray) (r : Bool) (w : World) (h : strings_HasPrefix.f a0 a1 = some r) :
    Calls Tryd.prog 37 #[.string a0, .string a1] w fun e w' => e = .returned (.bool r) ∧ Drawn0 w w' := by
  simp only [strings_HasPrefix.f, Option.some.injEq] at h
  obtain rfl := h
  refine (Tryd.strings_HasPrefix a0 a1 w).mono ?_
  rintro e w' ⟨rfl, rfl⟩
  exact ⟨rfl, Drawn0.refl _⟩
def bits_LeadingZeros64.f (a0 : Int) : Option Int := if 0 ≤ a0 ∧ a0 ≤ 18446744073709551615 then some (64 - (Lib.bitLen a0.toNat : Int)) else none
def bits_Len64.f (a0 : Int) : Option Int := if 0 ≤ a0 ∧ a0 ≤ 18446744073709551615 then some (Lib.bitLen a0.toNat : Int) else none
theorem bits_Len64.calls (a0 r : Int) (w : World) (h : bits_Len64.f a0 = some r) :
    Calls Tryd.prog 49 #[.int .u64 a0] w fun e w' => e = .returned (.int .i64 r) ∧ Drawn0 w w' := by
  unfold bits_Len64.f at h
  split at h
  · rename_i hc
    obtain rfl := Option.some.inj h
    refine (Tryd.bits_Len64 a0 w hc.1 hc.2).mono ?_
    rintro e w' ⟨rfl, rfl⟩
    exact ⟨rfl, Drawn0.refl _⟩
  · cases h
def strconv_FormatInt_33.f (a0 a1 : Int) : Option ByteArray := if -9223372036854775808 ≤ a0 ∧ a0 ≤ 9223372036854775807 ∧ a1 = 10 then some ⟨(Lib.itoa a0).toArray⟩ else none
def errV : Option Int → Value
  | none => .nilIface
  | some c => .iface 81 (.int .i64 c)
def strconv_Atoi_29.f (a0 : ByteArray) : Option (Int × Option Int) := if a0.size ≤ 9223372036854775806 then match Lib.atoiAll a0.data.toList with | .ok v => some (v, none) | _ => none else none
theorem strconv_Atoi_29.calls (a0 : ByteArray) (r1 : Int) (r2 : Option Int) (w : World) (h : strconv_Atoi_29.f a0 = some (r1, r2)) :
    Calls Tryd.prog 26 #[.string a0] w fun e w' => e = .returned (.tuple #[.int .i64 r1, errV r2]) ∧ Below w.heap.size w w' := by
  unfold strconv_Atoi_29.f at h
  split at h
  · rename_i hs
    split at h
    · rename_i v hv
      simp only [Option.some.injEq, Prod.mk.injEq] at h
      obtain ⟨rfl, rfl⟩ := h
      refine (Tryd.strconv_Atoi_ok a0 hs v hv w).mono ?_
      rintro e w' ⟨rfl, hw⟩
      refine ⟨rfl, ?_⟩
      rcases hw with rfl | ⟨t, rfl⟩
      · exact Below.refl _ _
      · exact Lib.bytesWorld_below _ _ _
    · cases h
  · cases h
def bits_TrailingZeros64.f (a0 : Int) : Option Int := if 0 ≤ a0 ∧ a0 < 18446744073709551616 then some (Lib.ctz 64 a0.toNat : Int) else none
theorem bits_TrailingZeros64.calls (a0 r : Int) (w : World) (hG : Glob w) (h : bits_TrailingZeros64.f a0 = some r) :
    Calls Tryd.prog 48 #[.int .u64 a0] w fun e w' => e = .returned (.int .i64 r) ∧ Below w.heap.size w w' := by
  unfold bits_TrailingZeros64.f at h
  split at h
  · rename_i hc
    obtain ⟨h0, h1⟩ := hc
    obtain rfl := Option.some.inj h
    obtain ⟨x, rfl⟩ := Int.eq_ofNat_of_zero_le h0
    refine (Any7.bits_TrailingZeros64 Tryd.lays7n29 x (by omega) w (fun _ => hG.2.1)).mono ?_
    rintro e w' ⟨rfl, rfl⟩
    exact ⟨rfl, Below.refl _ _⟩
  · cases h
end Go.Proofs.YtjolkombhdibcaaDoor.Given
end
section
namespace Go.Proofs.YtjolkombhdibcaaDoor.Laid
open Go.ChangeShapes Go.WideShapes Go.ChangeAt Go.RowKit Go.Proofs.YtjolkombhdibcaaDoor.Given Go.Shelf
def laid : List (String × DataW Unit) := [("math/bits.deBruijn32tab", Rows.laid_math_bits_deBruijn32tab), ("math/bits.deBruijn64tab", Rows.laid_math_bits_deBruijn64tab), ("internal/strconv.uint64pow10", Rows.laid_internal_strconv_uint64pow10), ("strconv.ErrRange", Rows.laid_strconv_ErrRange), ("strconv.ErrSyntax", Rows.laid_strconv_ErrSyntax)]
theorem own : ownKnob Tryd.prog.godebug = none := by kernel_rfl
theorem g64 : Tryd.prog.globalNamed "math/bits.deBruijn64tab" = some 0 := by kernel_rfl
theorem g32 : Tryd.prog.globalNamed "math/bits.deBruijn32tab" = some 4 := by kernel_rfl
theorem ty32 : (Tryd.prog.globals[4]?).map (·.type) = some 115 := by kernel_rfl
theorem ty64 : (Tryd.prog.globals[0]?).map (·.type) = some 87 := by kernel_rfl
theorem tyP : (Tryd.prog.globals[3]?).map (·.type) = some 105 := by kernel_rfl
theorem tyS : (Tryd.prog.globals[1]?).map (·.type) = some 64 := by kernel_rfl
theorem tyR : (Tryd.prog.globals[2]?).map (·.type) = some 64 := by kernel_rfl
theorem c5 : Tryd.prog.cellsOf 5 = 1 := by kernel_rfl
theorem c22 : Tryd.prog.cellsOf 28 = 1 := by kernel_rfl
theorem c74 : Tryd.prog.cellsOf 87 = 64 := by kernel_rfl
theorem cT32 : Tryd.prog.cellsOf 115 = 32 := by kernel_rfl
theorem c89 : Tryd.prog.cellsOf 105 = 20 := by kernel_rfl
theorem c97 : Tryd.prog.cellsOf 113 = 1 := by kernel_rfl
theorem c9 : Tryd.prog.cellsOf 9 = 1 := by kernel_rfl
theorem star : "*" ++ "errors.errorString" = "*errors.errorString" := by decide
theorem row95 (u : TypeId) (h : Tryd.prog.typeName? 3 u = some "*errors.errorString") : u = 111 :=
  typeName_ptr_named (nm := "errors.errorString") (by rw [star]; kernel_rfl) (by kernel_rfl) (by decide) u (by rw [star]; exact h)
theorem door_met (os : Os) (args : Array Value) : laidMetH Tryd.prog laid ((World.doorLaid Tryd.prog 62 os).forCall (fun _ _ => 0) ⟨#[], args, []⟩).memory :=
  laidMetH_of_parts3 (fuel := 8) (laidMet_of_run' 8 (by kernel_rfl) (by kernel_rfl)) (by kernel_rfl) (by kernel_rfl)
theorem var_lt {P : Program} {W : World} {n : String} {cs : Array Value} {g : Nat} (hg : P.globalNamed n = some g) (h : W.var? P n = some cs) : g < W.heap.size := by
  unfold World.var? at h
  rw [hg] at h
  simp only [Option.bind_some] at h
  rcases Nat.lt_or_ge g W.heap.size with h' | h'
  · exact h'
  · simp [Array.getElem?_eq_none h'] at h
theorem of_laid {W : World} (h0 : laidMetH Tryd.prog laid W) : Glob W := by
  rw [MakeChecks.laidMetH_plain _ _ _ (by kernel_rfl)] at h0
  have h1 := laidMet.tail h0
  have h2 := laidMet.tail h1
  have h3 := laidMet.tail h2
  have h4 := laidMet.tail h3
  have t32 : Lib.TabIs Tryd.prog W "math/bits.deBruijn32tab" .u8 ([0, 1, 28, 2, 29, 14, 24, 3, 30, 22, 20, 15, 25, 17, 4, 8, 31, 27, 13, 23, 21, 19, 16, 7, 26, 12, 18, 6, 11, 5, 10, 9] : List Int) := Lib.tabIs_of_head g32 ty32 Tryd.underlying115 Tryd.underlying5 c5 cT32 h0
  have t64 : Lib.TabIs Tryd.prog W "math/bits.deBruijn64tab" .u8 (Lib.deBruijn64tab.map fun n : Nat => (n : Int)) := Lib.tabIs_of_head g64 ty64 Tryd.underlying87 Tryd.underlying5 c5 c74 h1
  have tP : Lib.TabIs Tryd.prog W "internal/strconv.uint64pow10" .u64 Lib.pow10Tab := Lib.tabIs_of_head g_pow tyP Tryd.underlying105 Tryd.underlying28 c22 c89 h2
  obtain ⟨a1, s1, hv1, -, -, -⟩ := laid_sentinel h3 g_rng tyR Tryd.underlying64 row95 Tryd.underlying111 Tryd.underlying113 rfl rfl Tryd.underlying9 c97 c9
  obtain ⟨a2, s2, hv2, -, -, -⟩ := laid_sentinel h4 g_syn tyS Tryd.underlying64 row95 Tryd.underlying111 Tryd.underlying113 rfl rfl Tryd.underlying9 c97 c9
  refine ⟨tP, fun j hj => ?_, ⟨_, _, hv2⟩, ⟨_, _, hv1⟩, var_lt g32 t32⟩
  have := t64.cell g64 j (by simpa using hj)
  rw [this]
  simp [List.getD_eq_getElem?_getD, List.getElem?_eq_getElem hj]
end Go.Proofs.YtjolkombhdibcaaDoor.Laid
end
section
namespace Go.Proofs.YtjolkombhdibcaaDoor.Sp
open Go.RowKit Go.Proofs.YtjolkombhdibcaaDoorW.PrintWords
theorem Ev.t {α : Type} {g a : Nat → Option α} {c : Nat → Prop} [∀ k, Decidable (c k)] {b : Nat → Option α} {r : α} (h : ∀ k, c k) (he : Ev a r) (hg : ∀ k, g k = if c k then a k else b k) : Ev g r :=
  Ev.congr (fun k => by rw [hg k, if_pos (h k)]) he
theorem Ev.yes {α : Type} {a b : Nat → Option α} {c : Prop} [Decidable c] {r : α} (h : c) (he : Ev a r) : Ev (fun k => if c then a k else b k) r :=
  Ev.congr (fun k => by rw [if_pos h]) he
theorem Ev.no {α : Type} {a b : Nat → Option α} {c : Prop} [Decidable c] {r : α} (h : ¬ c) (he : Ev b r) : Ev (fun k => if c then a k else b k) r :=
  Ev.congr (fun k => by rw [if_neg h]) he
theorem Ev.ret {α : Type} {r r' : α} (h : r = r') : Ev (fun _ => some r) r' := h ▸ Ev.now r
theorem Ev.bind0 {α β : Type} {x : Option α} {f : Nat → α → Option β} {a : α} {r : β} (h : x = some a) (k : Ev (fun n => f n a) r) : Ev (fun n => x.bind (f n)) r := by
  subst h; exact k
theorem w64 {x : Int} (h0 : -9223372036854775808 ≤ x) (h1 : x ≤ 9223372036854775807) : wrap64 x = x := by unfold wrap64; omega
theorem wu64 {x : Int} (h0 : 0 ≤ x) (h1 : x ≤ 18446744073709551615) : IntKind.u64.wrap x = x := by
  simp [IntKind.wrap, IntKind.signed, IntKind.bits]; omega
abbrev bs (l : List UInt8) : ByteArray := ⟨l.toArray⟩
theorem bs_size (l : List UInt8) : (bs l).size = l.length := by simp [ByteArray.size]
theorem bs_toList (l : List UInt8) : (bs l).toList = l := by rw [ByteArray.toList_eq]
theorem bs_ext (l : List UInt8) (i j : Nat) : (bs l).extract i j = bs ((l.take j).drop i) := by
  apply ByteArray.ext
  rw [ByteArray.data_extract]
  simp [List.drop_take]
theorem bs_from (l : List UInt8) (i : Nat) : (bs l).extract i (bs l).size = bs (l.drop i) := by
  rw [bs_ext, bs_size, List.take_length]
theorem bt_bs (l : List UInt8) (i : Nat) : bt (bs l) i = ((l.getD i 0).toNat : Int) := by
  unfold bt
  simp only [Int.toNat_natCast, bs_size]
  by_cases h : i < l.length
  · rw [dif_pos h]
    have : (bs l)[i]'(by rw [bs_size]; exact h) = l[i] := by
      show l.toArray[i]'_ = _
      simp
    rw [this, List.getD_eq_getElem?_getD, List.getElem?_eq_getElem h]; rfl
  · rw [dif_neg h, List.getD_eq_getElem?_getD, List.getElem?_eq_none (by omega)]; rfl
theorem bt0 (c : UInt8) (l : List UInt8) : bt (bs (c :: l)) 0 = (c.toNat : Int) := bt_bs (c :: l) 0
theorem u8_eq {c : UInt8} {n : Nat} (h : (c.toNat : Int) = n) (hn : n < 256) : c = UInt8.ofNat n := by
  apply UInt8.toNat_inj.1
  simp
  omega
theorem drop_cons {l : List UInt8} {i : Nat} {c : UInt8} {r : List UInt8} (h : l.drop i = c :: r) : l.getD i 0 = c ∧ i < l.length ∧ l.drop (i + 1) = r := by
  have hi : i < l.length := by
    rcases Nat.lt_or_ge i l.length with h1 | h1
    · exact h1
    · rw [List.drop_eq_nil_of_le h1] at h; cases h
  rw [List.drop_eq_getElem_cons hi] at h
  obtain ⟨h1, h2⟩ := List.cons.inj h
  exact ⟨by rw [List.getD_eq_getElem?_getD, List.getElem?_eq_getElem hi, h1]; rfl, hi, h2⟩
end Go.Proofs.YtjolkombhdibcaaDoor.Sp
end
section
namespace Go.Proofs.YtjolkombhdibcaaDoor.Given
open Go.RowKit Go.Shelf Go.Proofs.YtjolkombhdibcaaDoorW.PrintWords
def isDig (c : UInt8) : Bool := decide (48 ≤ c.toNat ∧ c.toNat ≤ 57)
def digitsB (l : List UInt8) : Bool := l.all isDig && !l.isEmpty
def numtext_digits.f (a0 : ByteArray) : Option Bool := if a0.size ≤ maxLen then some (digitsB a0.data.toList) else none
theorem take_snoc (s : ByteArray) (k : Nat) (h : k < s.size) : s.data.toList.take (k + 1) = s.data.toList.take k ++ [s[k]] := by
  rw [List.take_succ_eq_append_getElem (by simpa using h)]; rfl
theorem dig_step (s : ByteArray) (k : Nat) (h : k < s.size) (hA : ∀ c ∈ s.data.toList.take k, isDig c = true) (h1 : isDig s[k] = true) : ∀ c ∈ s.data.toList.take (k + 1), isDig c = true := by
  rw [take_snoc s k h]
  intro c hc
  rcases List.mem_append.1 hc with hc | hc
  · exact hA c hc
  · rw [List.mem_singleton.1 hc]; exact h1
theorem dig_no (s : ByteArray) (k : Nat) (h : k < s.size) (h1 : isDig s[k] = false) : digitsB s.data.toList = false := by
  unfold digitsB
  rw [Bool.and_eq_false_iff]
  left
  rw [List.all_eq_false]
  exact ⟨s[k], Array.mem_toList_iff.2 (show s.data[k]'h ∈ s.data from Array.getElem_mem h), by simp [h1]⟩
theorem dig_end (s : ByteArray) (hA : ∀ c ∈ s.data.toList.take s.size, isDig c = true) : digitsB s.data.toList = !s.data.toList.isEmpty := by
  have h : s.data.toList.take s.size = s.data.toList := List.take_of_length_le (by simp)
  rw [h] at hA
  unfold digitsB
  rw [List.all_eq_true.2 hA, Bool.true_and]
set_option maxHeartbeats 400000 in
theorem digits_any (s : ByteArray) (w : World) (hs : s.size ≤ maxLen) :
    Calls Tryd.prog 25 #[.string s] w fun e w' => e = .returned (.bool (digitsB s.data.toList)) ∧ w = w' := by
  unfold maxLen at hs
  go_enter Tryd.func25, Tryd.ntmps25
  go_wp2
  go_loop [6] (fun i => ∃ k : Nat, k ≤ s.size ∧ i = .int .i64 k ∧ Aside0 (∀ c ∈ s.data.toList.take k, isDig c = true)) (fun i => s.size - (intOf i).toNat)
  case atStart => exact ⟨0, Nat.zero_le _, rfl, ⟨by simp⟩⟩
  case round =>
    obtain ⟨k, hk, rfl, HA⟩ := hrel
    by_cases hlt : k < s.size
    · by_cases h1 : (s[k].toNat : Int) < 48
      · have HN := Lib.hid (dig_no s k hlt (by unfold isDig; simp; omega))
        go_wp2
        go_ret
        exact ⟨by rw [HN.out]; rfl, rfl⟩
      · by_cases h2 : 57 < (s[k].toNat : Int)
        · have HN := Lib.hid (dig_no s k hlt (by unfold isDig; simp; omega))
          go_wp2
          go_ret
          exact ⟨by rw [HN.out]; rfl, rfl⟩
        · have HS := Aside0.mk (dig_step s k hlt HA.out (by unfold isDig; simp; omega))
          go_wp2
          go_round
          case rel => exact ⟨k + 1, by omega, by go_num, HS⟩
          case measure => simp [intOf]; omega
    · have hk2 : k = s.size := by omega
      subst hk2
      have HE := Lib.hid (dig_end s HA.out)
      clear HA
      go_wp2
      go_ret
      exact ⟨by rw [HE.out]; simp [ByteArray.toList_eq], rfl⟩
theorem numtext_digits.calls (a0 : ByteArray) (r : Bool) (w : World) (h : numtext_digits.f a0 = some r) :
    Calls Tryd.prog 25 #[.string a0] w fun e w' => e = .returned (.bool r) ∧ Drawn0 w w' := by
  unfold numtext_digits.f at h
  split at h
  · rename_i hs
    obtain rfl := Option.some.inj h
    refine (digits_any a0 w hs).mono ?_
    rintro e w' ⟨rfl, rfl⟩
    exact ⟨rfl, Drawn0.refl _⟩
  · cases h
def parseIntS (l : List UInt8) : Int × Int :=
  if 64 < l.length then (0, 2)
  else if digitsB (Lib.trimPrefix l [45]) = false then (0, 20)
  else if (Lib.trimPrefix l [45]).headD 0 = 48 ∧ l ≠ [48] then (0, 20)
  else match Lib.parseIntB 64 l with
    | .ok v => (v, 0)
    | _ => (0, 13)
def numtext_ParseInt.f (a0 : ByteArray) : Option (Int × Int) := if a0.size ≤ maxLen then some (parseIntS a0.data.toList) else none
theorem trim_d (s : ByteArray) (d : List UInt8) (hd : Lib.trimPrefix s.data.toList [45] = d) (w : World) :
    Calls Tryd.prog 74 #[.string s, .string ⟨#[45]⟩] w fun e w' => e = .returned (.string ⟨d.toArray⟩) ∧ w = w' := by
  refine (Tryd.strings_TrimPrefix s ⟨#[45]⟩ w).mono ?_
  rintro e w' ⟨rfl, rfl⟩
  exact ⟨by rw [← hd], rfl⟩
theorem digits_d (d : List UInt8) (w : World) (b : Bool) (hb : digitsB d = b) (hs : d.length ≤ maxLen) :
    Calls Tryd.prog 25 #[.string ⟨d.toArray⟩] w fun e w' => e = .returned (.bool b) ∧ w = w' := by
  refine (digits_any ⟨d.toArray⟩ w (by simpa [ByteArray.size] using hs)).mono ?_
  rintro e w' ⟨rfl, rfl⟩
  exact ⟨by rw [← hb], rfl⟩
theorem pi_ok (s : ByteArray) (hs : s.size ≤ 64) (v : Int) (h : Lib.parseIntB 64 s.data.toList = .ok v) (w : World) :
    Calls Tryd.prog 75 #[.string s, .int .i64 10, .int .i64 64] w fun e w' => e = .returned (.tuple #[.int .i64 v, .nilIface]) ∧ Below w.heap.size w w' := by
  refine (Tryd.strconv_ParseInt_10_at64_ok s (by omega) v h w).mono ?_
  rintro e w' ⟨rfl, hw⟩
  refine ⟨rfl, ?_⟩
  rcases hw with rfl | ⟨t, rfl⟩
  · exact Below.refl _ _
  · exact Lib.bytesWorld_below _ _ _
theorem pi_no (s : ByteArray) (hs : s.size ≤ 64) (h : ∀ v, Lib.parseIntB 64 s.data.toList ≠ .ok v) (w : World) (hG : Glob w) :
    Calls Tryd.prog 75 #[.string s, .int .i64 10, .int .i64 64] w fun e w' => ∃ x N, e = .returned (.tuple #[.int .i64 x, .iface 84 (.pointer (some ⟨N, 0, none⟩))]) ∧ Below w.heap.size w w' := by
  obtain ⟨_, _, ⟨t3, p3, h3⟩, ⟨t4, p4, h4⟩, _⟩ := hG
  cases hp : Lib.parseIntB 64 s.data.toList
  · rename_i v; exact absurd hp (h v)
  · refine (Any.strconv_ParseInt_10_at64_syntax_var Tryd.laysC174 s (by omega) hp t3 p3 w h3).mono ?_
    rintro e w' ⟨N, rfl, _, _, hb⟩
    exact ⟨_, N, rfl, hb⟩
  · refine (Tryd.strconv_ParseInt_10_at64_range_var s (by omega) hp t4 p4 w h4).mono ?_
    rintro e w' ⟨N, rfl, _, _, hb⟩
    exact ⟨_, N, rfl, hb⟩
theorem parse_end (l : List UInt8) : (∃ v, Lib.parseIntB 64 l = .ok v) ∨ (∀ v, Lib.parseIntB 64 l ≠ .ok v) := by
  cases Lib.parseIntB 64 l
  · rename_i v; exact .inl ⟨v, rfl⟩
  · exact .inr (fun v h => by cases h)
  · exact .inr (fun v h => by cases h)
theorem parse_no {l : List UInt8} (h : ∀ v, Lib.parseIntB 64 l ≠ .ok v) : (match Lib.parseIntB 64 l with
    | .ok v => (v, (0 : Int))
    | _ => (0, 13)) = (0, 13) := by
  split
  · rename_i v hv; exact absurd hv (h v)
  · rfl
set_option maxHeartbeats 400000 in
theorem ParseInt_any (s : ByteArray) (w : World) (hs : s.size ≤ maxLen) (hG : Glob w) :
    Calls Tryd.prog 61 #[.string s] w fun e w' => e = .returned (.tuple #[.int .i64 (parseIntS s.data.toList).1, .int .i64 (parseIntS s.data.toList).2]) ∧ Below w.heap.size w w' := by
  unfold maxLen at hs
  have HG := Aside0.mk hG
  clear hG
  by_cases hl : 64 < s.size
  · have HR : Hid (parseIntS s.data.toList = (0, 2)) := Lib.hid (by unfold parseIntS; rw [if_pos (by simpa using hl)])
    go_enter Tryd.func61, Tryd.ntmps61
    go_wp2
    go_ret2
    exact ⟨by rw [HR.out]; rfl, Below.refl _ _⟩
  · obtain ⟨d, hd⟩ : ∃ d, Lib.trimPrefix s.data.toList [45] = d := ⟨_, rfl⟩
    have hdl : d.length ≤ 64 := by have : d.length ≤ s.size := by (rw [← hd]; unfold Lib.trimPrefix; split <;> simp)
                                   omega
    by_cases hdig : digitsB d = true
    · have hne : 0 < d.length := by
        unfold digitsB at hdig
        cases d with
        | nil => simp at hdig
        | cons c r => simp
      obtain ⟨c, r, rfl⟩ : ∃ c r, d = c :: r := by
        cases d with
        | nil => simp at hne
        | cons c r => exact ⟨c, r, rfl⟩
      have HD := Lib.hid hd
      have HDG := Lib.hid hdig
      by_cases hz1 : (c.toNat : Int) = 48
      · have hc48 : c = 48 := UInt8.toNat_inj.1 (by simpa using (by omega : c.toNat = 48))
        have z1 : ((({ data := (c :: r).toArray } : ByteArray)[0].toNat : Int) == 48) = true := beq_iff_eq.2 hz1
        clear hz1
        by_cases hz2 : s.data.toList = [48]
        · have HZ : Hid (¬ ((c :: r).headD 0 = 48 ∧ s.data.toList ≠ [48])) := Lib.hid (fun h => h.2 hz2)
          have z2 : (s.toList == [48]) = true := by rw [ByteArray.toList_eq]; exact beq_iff_eq.2 hz2
          clear hz2 hc48
          rcases parse_end s.data.toList with ⟨v, hp⟩ | hp
          · have HR : Hid (parseIntS s.data.toList = (v, 0)) := Lib.hid (by unfold parseIntS; rw [if_neg (by simpa using hl), hd, if_neg (by simp [hdig]), if_neg HZ.out, hp])
            have HV := Lib.hid hp
            clear hd hdig hp HZ
            go_enter Tryd.func61, Tryd.ntmps61
            go_wp2_with (first | (go_at_call 74; refine (trim_d _ _ HD.out _).mono ?_; rintro e w' ⟨rfl, rfl⟩) | (go_at_call 25; refine (digits_d _ _ _ HDG.out (by unfold maxLen; omega)).mono ?_; rintro e w' ⟨rfl, rfl⟩) | (go_at_call 75; refine (pi_ok _ (by omega) _ HV.out _).mono ?_; rintro e w' ⟨rfl, hb⟩))
            go_ret2
            exact ⟨by rw [HR.out]; rfl, by assumption⟩
          · have HR : Hid (parseIntS s.data.toList = (0, 13)) := Lib.hid (by unfold parseIntS; rw [if_neg (by simpa using hl), hd, if_neg (by simp [hdig]), if_neg HZ.out, parse_no hp])
            have HV : Hid (∀ v, Lib.parseIntB 64 s.data.toList ≠ .ok v) := Lib.hid hp
            clear hd hdig hp HZ
            go_enter Tryd.func61, Tryd.ntmps61
            go_wp2_with (first | (go_at_call 74; refine (trim_d _ _ HD.out _).mono ?_; rintro e w' ⟨rfl, rfl⟩) | (go_at_call 25; refine (digits_d _ _ _ HDG.out (by unfold maxLen; omega)).mono ?_; rintro e w' ⟨rfl, rfl⟩) | (go_at_call 75; refine (pi_no _ (by omega) HV.out _ HG.out).mono ?_; rintro e w' ⟨x, N, rfl, hb⟩))
            go_ret2
            exact ⟨by rw [HR.out]; rfl, by assumption⟩
        · have HR : Hid (parseIntS s.data.toList = (0, 20)) := Lib.hid (by unfold parseIntS; rw [if_neg (by simpa using hl), hd, if_neg (by simp [hdig]), if_pos ⟨by simp [hc48], hz2⟩])
          have z2 : (s.toList == [48]) = false := by rw [ByteArray.toList_eq]; exact beq_eq_false_iff_ne.2 hz2
          clear hz2 hc48 hd hdig
          go_enter Tryd.func61, Tryd.ntmps61
          go_wp2_with (first | (go_at_call 74; refine (trim_d _ _ HD.out _).mono ?_; rintro e w' ⟨rfl, rfl⟩) | (go_at_call 25; refine (digits_d _ _ _ HDG.out (by unfold maxLen; omega)).mono ?_; rintro e w' ⟨rfl, rfl⟩))
          go_ret2
          exact ⟨by rw [HR.out]; rfl, Below.refl _ _⟩
      · have HZ : Hid (¬ ((c :: r).headD 0 = 48 ∧ s.data.toList ≠ [48])) := Lib.hid (fun h => hz1 (by have := h.1; simp at this; rw [this]; rfl))
        have z1 : ((({ data := (c :: r).toArray } : ByteArray)[0].toNat : Int) == 48) = false := beq_eq_false_iff_ne.2 hz1
        clear hz1
        rcases parse_end s.data.toList with ⟨v, hp⟩ | hp
        · have HR : Hid (parseIntS s.data.toList = (v, 0)) := Lib.hid (by unfold parseIntS; rw [if_neg (by simpa using hl), hd, if_neg (by simp [hdig]), if_neg HZ.out, hp])
          have HV := Lib.hid hp
          clear hd hdig hp HZ
          go_enter Tryd.func61, Tryd.ntmps61
          go_wp2_with (first | (go_at_call 74; refine (trim_d _ _ HD.out _).mono ?_; rintro e w' ⟨rfl, rfl⟩) | (go_at_call 25; refine (digits_d _ _ _ HDG.out (by unfold maxLen; omega)).mono ?_; rintro e w' ⟨rfl, rfl⟩) | (go_at_call 75; refine (pi_ok _ (by omega) _ HV.out _).mono ?_; rintro e w' ⟨rfl, hb⟩))
          go_ret2
          exact ⟨by rw [HR.out]; rfl, by assumption⟩
        · have HR : Hid (parseIntS s.data.toList = (0, 13)) := Lib.hid (by unfold parseIntS; rw [if_neg (by simpa using hl), hd, if_neg (by simp [hdig]), if_neg HZ.out, parse_no hp])
          have HV : Hid (∀ v, Lib.parseIntB 64 s.data.toList ≠ .ok v) := Lib.hid hp
          clear hd hdig hp HZ
          go_enter Tryd.func61, Tryd.ntmps61
          go_wp2_with (first | (go_at_call 74; refine (trim_d _ _ HD.out _).mono ?_; rintro e w' ⟨rfl, rfl⟩) | (go_at_call 25; refine (digits_d _ _ _ HDG.out (by unfold maxLen; omega)).mono ?_; rintro e w' ⟨rfl, rfl⟩) | (go_at_call 75; refine (pi_no _ (by omega) HV.out _ HG.out).mono ?_; rintro e w' ⟨x, N, rfl, hb⟩))
          go_ret2
          exact ⟨by rw [HR.out]; rfl, by assumption⟩
    · have hdig' : digitsB d = false := by simpa using hdig
      have HR : Hid (parseIntS s.data.toList = (0, 20)) := Lib.hid (by unfold parseIntS; rw [if_neg (by simpa using hl), hd, if_pos hdig'])
      have HD := Lib.hid hd
      have HDG := Lib.hid hdig'
      clear hd hdig' hdig
      go_enter Tryd.func61, Tryd.ntmps61
      go_wp2_with (first | (go_at_call 74; refine (trim_d _ _ HD.out _).mono ?_; rintro e w' ⟨rfl, rfl⟩) | (go_at_call 25; refine (digits_d _ _ _ HDG.out (by unfold maxLen; omega)).mono ?_; rintro e w' ⟨rfl, rfl⟩))
      go_ret2
      exact ⟨by rw [HR.out]; rfl, Below.refl _ _⟩
theorem numtext_ParseInt.calls (a0 : ByteArray) (r1 r2 : Int) (w : World) (hG : Glob w) (h : numtext_ParseInt.f a0 = some (r1, r2)) :
    Calls Tryd.prog 61 #[.string a0] w fun e w' => e = .returned (.tuple #[.int .i64 r1, .int .i64 r2]) ∧ Below w.heap.size w w' := by
  unfold numtext_ParseInt.f at h
  split at h
  · rename_i hs
    obtain ⟨rfl, rfl⟩ := Prod.mk.inj (Option.some.inj h)
    exact ParseInt_any a0 w hs hG
  · cases h
end Go.Proofs.YtjolkombhdibcaaDoor.Given
end
section
namespace Go.Proofs.YtjolkombhdibcaaDoor.Given
open Go.RowKit Go.Shelf Go.Proofs.YtjolkombhdibcaaDoorW.PrintWords
def hexV (c : UInt8) : Option Nat := if 48 ≤ c.toNat ∧ c.toNat ≤ 57 then some (c.toNat - 48) else if 97 ≤ c.toNat ∧ c.toNat ≤ 102 then some (c.toNat - 87) else none
def cutS : List UInt8 → List Int × List UInt8
  | [] => ([], [])
  | c :: r => match hexV c with
    | some v => ((v : Int) :: (cutS r).1, (cutS r).2)
    | none => ([], c :: r)
def numtext_cut.f (a0 : ByteArray) : Option (List Int × ByteArray) := if a0.size ≤ 10000000000 then some ((cutS a0.data.toList).1, ⟨(cutS a0.data.toList).2.toArray⟩) else none
theorem info28 : (Tryd.prog.info? 28).map (fun i => (i.zero, i.size, i.bytes)) = some (some (.int .u64 0), 1, 8) := by kernel_rfl
theorem cut_done {s : List UInt8} {t : List UInt8} {xs : List Int} {l : Value} {w w1 : World} (HC : cutS s = (xs ++ (cutS t).1, (cutS t).2)) (ht : cutS t = ([], t))
    (HO : w1.ownsRow w.heap.size 28 1 l xs.length (nums .u64 xs)) (HB : Below w.heap.size w w1) :
    ∃ v0_ : Value, Ending.returned (.tuple #[l, .string ⟨t.toArray⟩]) = .returned (.tuple #[v0_, .string ⟨(cutS s).2.toArray⟩]) ∧ Kd.R (Kd.int .u64) 28 w1 w.heap.size (fun _ => True) v0_ (cutS s).1 ∧ Below w.heap.size w w1 := by
  rw [HC, ht]
  refine ⟨l, rfl, ?_, HB⟩
  rw [List.append_nil]
  exact Kd.R_of_own HO (fun _ _ => trivial)
def hexL : List UInt8 := [48, 49, 50, 51, 52, 53, 54, 55, 56, 57, 97, 98, 99, 100, 101, 102]
theorem hex_dig : ∀ j : Nat, j < 10 → (hexL.getD j 0).toNat = j + 48 := by decide
theorem hex_let : ∀ j : Nat, 10 ≤ j → j < 16 → (hexL.getD j 0).toNat = j + 87 := by
  intro j h1 h2
  have : ∀ i : Nat, i < 6 → (hexL.getD (i + 10) 0).toNat = i + 97 := by decide
  have h := this (j - 10) (by omega)
  rw [show j - 10 + 10 = j by omega] at h
  omega
theorem hex_all : ∀ j : Nat, j < 16 → hexV (hexL.getD j 0) = some j := by decide
theorem hex_none {c : UInt8} (h : ∀ j : Nat, j < 16 → hexL.getD j 0 ≠ c) : hexV c = none := by
  unfold hexV
  by_cases h1 : 48 ≤ c.toNat ∧ c.toNat ≤ 57
  · refine absurd ?_ (h (c.toNat - 48) (by omega))
    apply UInt8.toNat_inj.1
    exact hex_dig (c.toNat - 48) (by omega) |>.trans (by omega)
  · rw [if_neg h1]
    by_cases h2 : 97 ≤ c.toNat ∧ c.toNat ≤ 102
    · refine absurd ?_ (h (c.toNat - 87) (by omega))
      apply UInt8.toNat_inj.1
      exact hex_let (c.toNat - 87) (by omega) (by omega) |>.trans (by omega)
    · rw [if_neg h2]
theorem hex_some {c : UInt8} {j : Nat} (hj : j < 16) (h : hexL.getD j 0 = c) : hexV c = some j := by
  subst h
  exact hex_all j hj
theorem hex_at {j : Nat} (hj : j < (⟨#[48, 49, 50, 51, 52, 53, 54, 55, 56, 57, 97, 98, 99, 100, 101, 102]⟩ : ByteArray).size) : (⟨#[48, 49, 50, 51, 52, 53, 54, 55, 56, 57, 97, 98, 99, 100, 101, 102]⟩ : ByteArray)[j] = hexL.getD j 0 := by
  show (#[48, 49, 50, 51, 52, 53, 54, 55, 56, 57, 97, 98, 99, 100, 101, 102] : Array UInt8)[j]'hj = _
  have hj' : j < hexL.length := hj
  rw [List.getD_eq_getElem?_getD, List.getElem?_eq_getElem hj', Option.getD_some]
  rfl
theorem test_yes {c : UInt8} {r : List UInt8} {j : Nat} (hj : j < 16) (h : hexL.getD j 0 = c) :
    ((((⟨(c :: r).toArray⟩ : ByteArray)[0]'(Nat.succ_pos _)).toNat : Int) == (((⟨#[48, 49, 50, 51, 52, 53, 54, 55, 56, 57, 97, 98, 99, 100, 101, 102]⟩ : ByteArray)[j]'hj).toNat : Int)) = true := by
  rw [hex_at hj, h, beq_iff_eq]; rfl
theorem test_no {c : UInt8} {r : List UInt8} {j : Nat} (hj : j < 16) (h : hexL.getD j 0 ≠ c) :
    ((((⟨(c :: r).toArray⟩ : ByteArray)[0]'(Nat.succ_pos _)).toNat : Int) == (((⟨#[48, 49, 50, 51, 52, 53, 54, 55, 56, 57, 97, 98, 99, 100, 101, 102]⟩ : ByteArray)[j]'hj).toNat : Int)) = false := by
  rw [hex_at hj, beq_eq_false_iff_ne]
  intro he
  exact h (UInt8.toNat_inj.1 (by have : (c.toNat : Int) = _ := he; omega))
theorem no_more {c : UInt8} {j : Nat} (h : ∀ j' : Nat, j' < j → hexL.getD j' 0 ≠ c) (h1 : hexL.getD j 0 ≠ c) : ∀ j' : Nat, j' < j + 1 → hexL.getD j' 0 ≠ c := by
  intro j' hj
  rcases Nat.lt_succ_iff_lt_or_eq.1 hj with hj | rfl
  · exact h j' hj
  · exact h1
theorem ext1 (c : UInt8) (r : List UInt8) : (⟨(c :: r).toArray⟩ : ByteArray).extract 1 (r.length + 1) = ⟨r.toArray⟩ := by
  apply ByteArray.ext
  rw [ByteArray.data_extract]
  simp
set_option maxRecDepth 100000 in
set_option maxHeartbeats 400000 in
theorem cut_any (s : ByteArray) (w : World) (hs : s.size ≤ 10000000000) :
    Calls Tryd.prog 24 #[.string s] w fun e w' => ∃ v0_ : Value, e = .returned (.tuple #[v0_, .string ⟨(cutS s.data.toList).2.toArray⟩]) ∧ Kd.R (Kd.int .u64) 28 w' w.heap.size (fun _ => True) v0_ (cutS s.data.toList).1 ∧ Below w.heap.size w w' := by
  go_enter Tryd.func24, Tryd.ntmps24
  go_wp2
  go_step3
  go_wp2
  go_step3
  go_wp2
  go_loopg [0, 4] s.size (fun k s0 l w1 => ∃ (t : List UInt8) (xs : List Int), s0 = .string ⟨t.toArray⟩ ∧ Aside0 (t.length ≤ k) ∧ Aside0 (s.data.toList.length = t.length + xs.length) ∧ Aside0 (cutS s.data.toList = (xs ++ (cutS t).1, (cutS t).2)) ∧ Aside0 (w1.ownsRow w.heap.size 28 1 l xs.length (nums .u64 xs)) ∧ Aside0 (Below w.heap.size w w1))
  case atStart => exact ⟨s.data.toList, [], by simp, ⟨by simp⟩, ⟨by simp⟩, ⟨by simp⟩, ⟨own_nil _ _ _ _⟩, ⟨Below.refl _ _⟩⟩
  case round =>
    obtain ⟨t, xs, rfl, HK, HL, HC, HO, HB⟩ := hrel
    obtain ⟨go, rfl⟩ : ∃ g : Nat, g = gk := ⟨_, rfl⟩
    cases t with
    | nil =>
      go_wp2
      rw [Exit.noGoto_ret]
      go_ret2
      exact cut_done HC.out rfl HO.out HB.out
    | cons c r =>
      have HR : Aside0 (r.length ≤ 10000000000) := ⟨by have := HL.out; simp at this; omega⟩
      go_wp2
      go_loopg [0, 4, 9, 5] 16 (fun k s0 l i _ wi => ∃ j : Nat, s0 = .string ⟨(c :: r).toArray⟩ ∧ l = u4 ∧ i = .int .i64 j ∧ j ≤ 16 ∧ Aside0 (16 ≤ j + k) ∧ Aside0 (∀ j' : Nat, j' < j → hexL.getD j' 0 ≠ c) ∧ Drawn0 wr wi)
      case atStart => exact ⟨0, rfl, rfl, rfl, by omega, ⟨by omega⟩, ⟨fun j' h => absurd h (by omega)⟩, Drawn0.refl _⟩
      case round =>
        obtain ⟨j, rfl, rfl, rfl, hj, HJ, HN, ⟨⟨nd, rfl⟩⟩⟩ := hrel
        by_cases hlt : j < 16
        · have z0 : 0 < (⟨(c :: r).toArray⟩ : ByteArray).size := by simp [ByteArray.size]
          have z1 : j < (⟨#[48, 49, 50, 51, 52, 53, 54, 55, 56, 57, 97, 98, 99, 100, 101, 102]⟩ : ByteArray).size := hlt
          by_cases he : hexL.getD j 0 = c
          · have HX := hex_some hlt he
            have ZT := Aside0.mk (test_yes (r := r) hlt he)
            have HH := Aside0.mk HX
            clear HX he
            go_wp2
            have zt := ZT.out
            go_quiet (fail)
            clear zt
            go_wp2_with (first | (at_builtin; refine print_append_num (w0 := w) w.heap.size rfl (.tmp 17) (.tmp 20) 59 28 .u64 8 rfl Tryd.underlying59 info28 (by decide) _ xs j rfl rfl (pw_own_drewN HO.out _) (pw_below_drewN HB.out _) HB.out.size (by have := HL.out; simp at this; omega) ?_; intro v1 w1 hown hB1 hg hat; clear hg hat; obtain ⟨HO1, HB1⟩ := And.intro (Aside0.mk hown) (Aside0.mk hB1); clear hown hB1))
            go_roundg r.length
            case measure => have := HK.out; simp at this; omega
            case rel => exact ⟨r, xs ++ [(j : Int)], by rw [ext1], ⟨Nat.le_refl _⟩, ⟨by have := HL.out; simp at this ⊢; omega⟩, ⟨by rw [HC.out]; simp [cutS, HH.out]⟩, HO1, HB1⟩
          · have ZT := Aside0.mk (test_no (r := r) hlt he)
            have HE := Aside0.mk he
            clear he
            go_wp2
            have zt := ZT.out
            go_quiet (fail)
            clear zt
            go_wp2
            go_roundg (16 - (j + 1))
            case measure => have := HJ.out; omega
            case rel => exact ⟨j + 1, rfl, rfl, by go_num, by omega, ⟨by omega⟩, ⟨no_more HN.out HE.out⟩, by repeat (first | exact Drawn0.refl _ | apply Drawn0.step)⟩
        · obtain rfl : j = 16 := by omega
          have HV := hex_none HN.out
          go_wp2
          rw [Exit.noGoto_ret]
          go_ret2
          exact cut_done HC.out (by simp [cutS, HV]) (pw_own_drewN HO.out _) (pw_below_drewN HB.out _)
theorem numtext_cut.calls (a0 : ByteArray) (r1 : List Int) (r2 : ByteArray) (w : World) (h : numtext_cut.f a0 = some (r1, r2)) :
    Calls Tryd.prog 24 #[.string a0] w fun e w' => ∃ v0_ : Value, e = .returned (.tuple #[v0_, .string r2]) ∧ Kd.R (Kd.int .u64) 28 w' w.heap.size (fun _ => True) v0_ r1 ∧ Below w.heap.size w w' := by
  unfold numtext_cut.f at h
  split at h
  · rename_i hs
    obtain ⟨rfl, rfl⟩ := Prod.mk.inj (Option.some.inj h)
    exact cut_any a0 w hs
  · cases h
end Go.Proofs.YtjolkombhdibcaaDoor.Given
end
section
namespace Go.Proofs.YtjolkombhdibcaaDoor.Given
open Go.RowKit Go.Shelf Go.Proofs.YtjolkombhdibcaaDoorW.PrintWords
set_option linter.unusedVariables false
set_option linter.unusedSimpArgs false
structure Fn8 (g : Nat) (p : UInt8 → Bool) : Prop where
  out : ∀ (W : World) (c : UInt8), Calls Tryd.prog g #[.int .u8 c.toNat] W fun e w' => e = .returned (.bool (p c)) ∧ Drawn0 W w'
  ent : ∀ args w, (callFunc g args).run Tryd.prog w = .ok (.enter g args) w
def lowB (c : UInt8) : Bool := decide (97 ≤ c.toNat ∧ c.toNat ≤ 122) || c == 95
def hexB (c : UInt8) : Bool := isDig c || decide (97 ≤ c.toNat ∧ c.toNat ≤ 102)
def nameB (c : UInt8) : Bool := lowB c || isDig c
def dotB (c : UInt8) : Bool := hexB c || c == 46
def lineB (c : UInt8) : Bool := c != 10
theorem c_eq {c : UInt8} {n : Nat} (hn : n < 256) : ((c.toNat : Int) == (n : Int)) = (c == UInt8.ofNat n) := by
  rw [Bool.eq_iff_iff, beq_iff_eq, beq_iff_eq, ← UInt8.toNat_inj]
  simp
  omega
theorem dig_calls (W : World) (c : UInt8) : Calls Tryd.prog 39 #[.int .u8 c.toNat] W fun e w' => e = .returned (.bool (isDig c)) ∧ W = w' := by
  by_cases h1 : 48 ≤ (c.toNat : Int)
  · have h : Hid (isDig c = decide ((c.toNat : Int) ≤ 57)) := Lib.hid (by unfold isDig; rw [decide_eq_decide]; omega)
    go_enter Tryd.func39, Tryd.ntmps39
    go_wp2
    repeat (go_quiet (fail); try go_wp2)
    go_ret
    exact ⟨by rw [h.out]; rfl, rfl⟩
  · have h : Hid (isDig c = false) := Lib.hid (by unfold isDig; exact decide_eq_false (by omega))
    go_enter Tryd.func39, Tryd.ntmps39
    go_wp2
    repeat (go_quiet (fail); try go_wp2)
    go_ret
    exact ⟨by rw [h.out]; rfl, rfl⟩
theorem fn39 : Fn8 39 isDig := ⟨fun W c => by
  refine (dig_calls W c).mono ?_
  rintro e w' ⟨rfl, rfl⟩
  exact ⟨rfl, Drawn0.refl _⟩, enters_of Tryd.func39 (by kernel_rfl) rfl⟩
theorem hex_calls (W : World) (c : UInt8) : Calls Tryd.prog 60 #[.int .u8 c.toNat] W fun e w' => e = .returned (.bool (hexB c)) ∧ W = w' := by
  by_cases hd : isDig c = true
  · have h : Hid (hexB c = true) := Lib.hid (by unfold hexB; rw [hd]; rfl)
    have HL := Lib.hid hd
    clear hd
    go_enter Tryd.func60, Tryd.ntmps60
    go_wp2_with (first | (go_at_call 39; refine (dig_calls _ _).mono ?_; rintro e w' ⟨rfl, rfl⟩; rw [HL.out]))
    repeat (go_quiet (fail); try go_wp2)
    go_ret
    exact ⟨by rw [h.out]; rfl, rfl⟩
  · have HL := Lib.hid (Bool.eq_false_iff.2 hd)
    by_cases h1 : 97 ≤ (c.toNat : Int)
    · have h : Hid (hexB c = decide ((c.toNat : Int) ≤ 102)) := Lib.hid (by unfold hexB; rw [HL.out, Bool.false_or, decide_eq_decide]; omega)
      clear hd
      go_enter Tryd.func60, Tryd.ntmps60
      go_wp2_with (first | (go_at_call 39; refine (dig_calls _ _).mono ?_; rintro e w' ⟨rfl, rfl⟩; rw [HL.out]))
      repeat (go_quiet (fail); try go_wp2)
      go_ret
      exact ⟨by rw [h.out]; rfl, rfl⟩
    · have h : Hid (hexB c = false) := Lib.hid (by unfold hexB; rw [HL.out, Bool.false_or]; exact decide_eq_false (by omega))
      clear hd
      go_enter Tryd.func60, Tryd.ntmps60
      go_wp2_with (first | (go_at_call 39; refine (dig_calls _ _).mono ?_; rintro e w' ⟨rfl, rfl⟩; rw [HL.out]))
      repeat (go_quiet (fail); try go_wp2)
      go_ret
      exact ⟨by rw [h.out]; rfl, rfl⟩
theorem low_calls (W : World) (c : UInt8) : Calls Tryd.prog 35 #[.int .u8 c.toNat] W fun e w' => e = .returned (.bool (lowB c)) ∧ W = w' := by
  have h5 : ((c.toNat : Int) == 95) = (c == 95) := c_eq (n := 95) (by decide)
  by_cases h1 : 97 ≤ (c.toNat : Int)
  · by_cases h2 : (c.toNat : Int) ≤ 122
    · have h : Hid (lowB c = true) := Lib.hid (by unfold lowB; rw [decide_eq_true (by omega)]; rfl)
      go_enter Tryd.func35, Tryd.ntmps35
      go_wp2
      repeat (go_quiet (fail); try go_wp2)
      go_ret
      exact ⟨by rw [h.out]; rfl, rfl⟩
    · have h : Hid (lowB c = (c == 95)) := Lib.hid (by unfold lowB; rw [decide_eq_false (by omega)]; rfl)
      go_enter Tryd.func35, Tryd.ntmps35
      go_wp2
      repeat (go_quiet (fail); try go_wp2)
      go_ret
      exact ⟨by rw [h.out]; rfl, rfl⟩
  · have h : Hid (lowB c = (c == 95)) := Lib.hid (by unfold lowB; rw [decide_eq_false (by omega)]; rfl)
    go_enter Tryd.func35, Tryd.ntmps35
    go_wp2
    repeat (go_quiet (fail); try go_wp2)
    go_ret
    exact ⟨by rw [h.out]; rfl, rfl⟩
theorem fn55 : Fn8 55 nameB := ⟨fun W c => by
  by_cases h : lowB c = true
  · have hn : Hid (nameB c = true) := Lib.hid (by unfold nameB; rw [h]; rfl)
    have HL := Lib.hid h
    clear h
    go_enter Tryd.func55, Tryd.ntmps55
    go_wp2_with (first | (go_at_call 35; refine (low_calls _ _).mono ?_; rintro e w' ⟨rfl, rfl⟩; rw [HL.out]))
    repeat (go_quiet (fail); try go_wp2)
    go_ret
    exact ⟨by rw [hn.out]; rfl, by repeat (first | exact Drawn0.refl _ | apply Drawn0.step)⟩
  · have hn : Hid (nameB c = isDig c) := Lib.hid (by unfold nameB; rw [Bool.eq_false_iff.2 h]; rfl)
    have HL := Lib.hid (Bool.eq_false_iff.2 h)
    clear h
    go_enter Tryd.func55, Tryd.ntmps55
    go_wp2_with (first | (go_at_call 35; refine (low_calls _ _).mono ?_; rintro e w' ⟨rfl, rfl⟩; rw [HL.out]) | (go_at_call 39; refine (fn39.out _ _).mono ?_; rintro e w' ⟨rfl, ⟨nd, rfl⟩⟩))
    repeat (go_quiet (fail); try go_wp2)
    go_ret
    exact ⟨by rw [hn.out]; rfl, by repeat (first | exact Drawn0.refl _ | apply Drawn0.step)⟩, enters_of Tryd.func55 (by kernel_rfl) rfl⟩
theorem fn59 : Fn8 59 dotB := ⟨fun W c => by
  have h5 : ((c.toNat : Int) == 46) = (c == 46) := c_eq (n := 46) (by decide)
  by_cases h : hexB c = true
  · have hn : Hid (dotB c = true) := Lib.hid (by unfold dotB; rw [h]; rfl)
    have HL := Lib.hid h
    clear h
    go_enter Tryd.func59, Tryd.ntmps59
    go_wp2_with (first | (go_at_call 60; refine (hex_calls _ _).mono ?_; rintro e w' ⟨rfl, rfl⟩; rw [HL.out]))
    repeat (go_quiet (fail); try go_wp2)
    go_ret
    exact ⟨by rw [hn.out]; rfl, by repeat (first | exact Drawn0.refl _ | apply Drawn0.step)⟩
  · have hn : Hid (dotB c = (c == 46)) := Lib.hid (by unfold dotB; rw [Bool.eq_false_iff.2 h]; rfl)
    have HL := Lib.hid (Bool.eq_false_iff.2 h)
    clear h
    go_enter Tryd.func59, Tryd.ntmps59
    go_wp2_with (first | (go_at_call 60; refine (hex_calls _ _).mono ?_; rintro e w' ⟨rfl, rfl⟩; rw [HL.out]))
    repeat (go_quiet (fail); try go_wp2)
    go_ret
    exact ⟨by rw [hn.out]; rfl, by repeat (first | exact Drawn0.refl _ | apply Drawn0.step)⟩, enters_of Tryd.func59 (by kernel_rfl) rfl⟩
theorem fn19 : Fn8 19 lineB := ⟨fun W c => by
  have h5 : ((c.toNat : Int) != 10) = lineB c := congrArg not (c_eq (c := c) (n := 10) (by decide))
  go_enter Tryd.func19, Tryd.ntmps19
  go_wp2
  repeat (go_quiet (fail); try go_wp2)
  go_ret
  exact ⟨rfl, Drawn0.refl _⟩, enters_of Tryd.func19 (by kernel_rfl) rfl⟩
def runN (p : UInt8 → Bool) (l : List UInt8) : Nat := (l.takeWhile p).length
theorem drop_cons' (s : ByteArray) (k : Nat) (h : k < s.size) : s.data.toList.drop k = s[k] :: s.data.toList.drop (k + 1) := by
  rw [List.drop_eq_getElem_cons (by simpa using h)]; rfl
set_option maxHeartbeats 400000 in
theorem run_any (g : Nat) (p : UInt8 → Bool) (hp : Fn8 g p) (s : ByteArray) (j : Nat) (hj : j ≤ s.size) (hs : s.size ≤ maxLen) (w : World) :
    Calls Tryd.prog 18 #[.string s, .int .i64 j, .func (.func g) #[] #[]] w fun e w' => e = .returned (.int .i64 (runN p (s.data.toList.drop j))) ∧ Drawn0 w w' := by
  unfold maxLen at hs
  have eg := hp.ent
  have HP := Aside0.mk hp.out
  clear hp
  go_enter Tryd.func18, Tryd.ntmps18
  go_wp2
  go_loopg [7] s.size (fun m i wi => ∃ k : Nat, i = .int .i64 k ∧ j + k ≤ s.size ∧ Aside0 (s.size ≤ m + j + k) ∧ Aside0 (runN p (s.data.toList.drop j) = k + runN p (s.data.toList.drop (j + k))) ∧ Drawn0 w wi)
  case atStart => exact ⟨0, rfl, by omega, ⟨by omega⟩, ⟨by simp⟩, Drawn0.refl _⟩
  case round =>
    obtain ⟨k, rfl, hk, HM, HR, ⟨⟨nd, rfl⟩⟩⟩ := hrel
    by_cases hlt : j + k < s.size
    · by_cases hc : p s[j + k] = true
      · have HC := Lib.hid hc
        have HN : Aside0 (runN p (s.data.toList.drop j) = (k + 1) + runN p (s.data.toList.drop (j + (k + 1)))) := ⟨by
          rw [HR.out, drop_cons' s (j + k) hlt]
          show k + ((s[j + k] :: s.data.toList.drop (j + k + 1)).takeWhile p).length = _
          rw [List.takeWhile_cons, hc]
          show k + (((s.data.toList.drop (j + k + 1)).takeWhile p).length + 1) = _
          unfold runN
          rw [show j + (k + 1) = j + k + 1 by omega]
          omega⟩
        clear hc
        go_wp2_with (first | (go_at_fn g; refine (HP.out _ _).mono ?_; rintro e w' ⟨rfl, ⟨nd, rfl⟩⟩; rw [HC.out]))
        repeat (go_quiet (fail); try go_wp2)
        go_roundg (s.size - (j + k + 1))
        case measure => have := HM.out; omega
        case rel => exact ⟨k + 1, by go_num, by omega, ⟨by omega⟩, HN, by repeat (first | exact Drawn0.refl _ | apply Drawn0.step)⟩
      · have HC := Lib.hid (Bool.eq_false_iff.2 hc)
        have HN : Hid (runN p (s.data.toList.drop j) = k) := Lib.hid (by
          rw [HR.out, drop_cons' s (j + k) hlt]
          unfold runN
          rw [List.takeWhile_cons, if_neg hc]; rfl)
        clear hc
        go_wp2_with (first | (go_at_fn g; refine (HP.out _ _).mono ?_; rintro e w' ⟨rfl, ⟨nd, rfl⟩⟩; rw [HC.out]))
        repeat (go_quiet (fail); try go_wp2)
        go_ret
        exact ⟨by rw [HN.out]; rfl, by repeat (first | exact Drawn0.refl _ | apply Drawn0.step)⟩
    · have HN : Hid (runN p (s.data.toList.drop j) = k) := Lib.hid (by
        rw [HR.out, List.drop_eq_nil_of_le (by simp; omega)]; rfl)
      go_wp2
      repeat (go_quiet (fail); try go_wp2)
      go_ret
      exact ⟨by rw [HN.out]; rfl, by repeat (first | exact Drawn0.refl _ | apply Drawn0.step)⟩
def runF (g : Int) : UInt8 → Bool := if g = 8800000055 then nameB else if g = 8800000059 then dotB else if g = 8800000039 then isDig else lineB
def lex_run.f (a0 : ByteArray) (a1 a2 : Int) : Option Int := if 0 ≤ a1 ∧ a1 ≤ a0.size ∧ a0.size ≤ maxLen then some (runN (runF a2) (a0.data.toList.drop a1.toNat)) else none
theorem run_of {g : Nat} {p : UInt8 → Bool} (hp : Fn8 g p) {G : Int} (hG : runF G = p) {a0 : ByteArray} {a1 r : Int} {w : World} (h : lex_run.f a0 a1 G = some r) :
    Calls Tryd.prog 18 #[.string a0, .int .i64 a1, .func (.func g) #[] #[]] w fun e w' => e = .returned (.int .i64 r) ∧ Drawn0 w w' := by
  unfold lex_run.f at h
  split at h
  · rename_i hc
    obtain ⟨h0, h1, h2⟩ := hc
    obtain rfl := Option.some.inj h
    obtain ⟨j, rfl⟩ := Int.eq_ofNat_of_zero_le h0
    rw [hG]
    exact run_any g p hp a0 j (by omega) h2 w
  · cases h
theorem lex_run.calls55 (a0 : ByteArray) (a1 r : Int) (w : World) (h : lex_run.f a0 a1 8800000055 = some r) :
    Calls Tryd.prog 18 #[.string a0, .int .i64 a1, .func (.func 55) #[] #[]] w fun e w' => e = .returned (.int .i64 r) ∧ Drawn0 w w' := run_of fn55 rfl h
theorem lex_run.calls59 (a0 : ByteArray) (a1 r : Int) (w : World) (h : lex_run.f a0 a1 8800000059 = some r) :
    Calls Tryd.prog 18 #[.string a0, .int .i64 a1, .func (.func 59) #[] #[]] w fun e w' => e = .returned (.int .i64 r) ∧ Drawn0 w w' := run_of fn59 rfl h
theorem lex_run.calls39 (a0 : ByteArray) (a1 r : Int) (w : World) (h : lex_run.f a0 a1 8800000039 = some r) :
    Calls Tryd.prog 18 #[.string a0, .int .i64 a1, .func (.func 39) #[] #[]] w fun e w' => e = .returned (.int .i64 r) ∧ Drawn0 w w' := run_of fn39 rfl h
theorem lex_run.calls19 (a0 : ByteArray) (a1 r : Int) (w : World) (h : lex_run.f a0 a1 8800000019 = some r) :
    Calls Tryd.prog 18 #[.string a0, .int .i64 a1, .func (.func 19) #[] #[]] w fun e w' => e = .returned (.int .i64 r) ∧ Drawn0 w w' := run_of fn19 rfl h
end Go.Proofs.YtjolkombhdibcaaDoor.Given
end
section
namespace Go.Proofs.YtjolkombhdibcaaDoor.Print
open Go.RowKit Go.Proofs.YtjolkombhdibcaaDoor.Given Go.Proofs.YtjolkombhdibcaaDoorW.PrintWords Go.Proofs.YtjolkombhdibcaaDoorW.PrintLast Go.Proofs.YtjolkombhdibcaaDoorW.PrintMore
attribute [local go_sem] max2_int min2_int max_two min_two max_three min_three max_four min_four
set_option linter.unusedVariables false
set_option linter.unusedSimpArgs false
def errW : Option Int → Value
 | none => .nilIface
 | some c => .iface 0 (.int .i64 c)
theorem errW_none : errW none = .nilIface := rfl
theorem errW_some (c : Int) : errW (some c) = .iface 0 (.int .i64 c) := rfl
theorem info5 : (Tryd.prog.info? 5).map (fun i => (i.zero, i.size, i.bytes)) = some (some (.int .u8 0), 1, 1) := by kernel_rfl
theorem info28 : (Tryd.prog.info? 28).map (fun i => (i.zero, i.size, i.bytes)) = some (some (.int .u64 0), 1, 8) := by kernel_rfl
theorem info30 : (Tryd.prog.info? 30).map (fun i => (i.zero, i.size, i.bytes)) = some (some (.agg #[(.int .i64 0), (.int .i64 0), (.string ⟨#[]⟩), (.int .i64 0), (.int .u64 0)]), 5, 48) := by kernel_rfl
structure S30 where
 f0 : Int
 f1 : Int
 f2 : ByteArray
 f3 : Int
 f4 : Int
def z30 : S30 := ⟨(0 : Int), (0 : Int), (⟨#[]⟩ : ByteArray), (0 : Int), (0 : Int)⟩
def k30 : Kd S30 := Kd.iso (Kd.pair (Kd.int .i64) (Kd.pair (Kd.int .i64) (Kd.pair Kd.string (Kd.pair (Kd.int .i64) (Kd.int .u64))))) (fun x : S30 => (x.f0, x.f1, x.f2, x.f3, x.f4))
theorem k30_open {w : World} {x : S30} {cs : List Value} (h : k30.K w x cs) : cs = [.int .i64 x.f0, .int .i64 x.f1, .string x.f2, .int .i64 x.f3, .int .u64 x.f4] := by
 obtain ⟨_, _, rfl, rfl, ⟨_, _, rfl, rfl, ⟨_, _, rfl, rfl, ⟨_, _, rfl, rfl, rfl⟩⟩⟩⟩ := h
 exact rfl
theorem k30_mkM (w : World) (base : Nat) (ok : Nat → Prop) (x : S30)  : k30.M w base ok x [.int .i64 x.f0, .int .i64 x.f1, .string x.f2, .int .i64 x.f3, .int .u64 x.f4] := ⟨[.int .i64 x.f0], [.int .i64 x.f1, .string x.f2, .int .i64 x.f3, .int .u64 x.f4], rfl, rfl, ⟨[.int .i64 x.f1], [.string x.f2, .int .i64 x.f3, .int .u64 x.f4], rfl, rfl, ⟨[.string x.f2], [.int .i64 x.f3, .int .u64 x.f4], rfl, rfl, ⟨[.int .i64 x.f3], [.int .u64 x.f4], rfl, rfl, rfl⟩⟩⟩⟩
def rd_T30 (xs : List S30) (i : Int) : S30 := xs.getD i.toNat z30
theorem at_T30 {w : World} {A : Option Addr} {n : Nat} {xs : List S30} (h : Kd.C k30 w A n xs) (i : Int) (h0 : 0 ≤ i) (h1 : i < n) : ∃ ad , A = some ad ∧ w.cell? (ad.add (i.toNat * 5)) = some (.int .i64 (rd_T30 xs i).f0) ∧ w.cell? ⟨(ad.add (i.toNat * 5)).block, (ad.add (i.toNat * 5)).off + 1, none⟩ = some (.int .i64 (rd_T30 xs i).f1) ∧ w.cell? ⟨(ad.add (i.toNat * 5)).block, (ad.add (i.toNat * 5)).off + 2, none⟩ = some (.string (rd_T30 xs i).f2) ∧ w.cell? ⟨(ad.add (i.toNat * 5)).block, (ad.add (i.toNat * 5)).off + 3, none⟩ = some (.int .i64 (rd_T30 xs i).f3) ∧ w.cell? ⟨(ad.add (i.toNat * 5)).block, (ad.add (i.toNat * 5)).off + 4, none⟩ = some (.int .u64 (rd_T30 xs i).f4) := by
 obtain ⟨ad, c, e, _, hK, hc0⟩ := Kd.C_get h z30 i h0 h1
 have hc : ∀ j u, c[j]? = some u → w.cell? (ad.add (i.toNat * 5 + j)) = some u := hc0
 obtain rfl := k30_open hK
 exact ⟨ad, e, hc 0 _ rfl, by rw [← add_field _ _ 1 (by omega)]; exact hc 1 _ rfl, by rw [← add_field _ _ 2 (by omega)]; exact hc 2 _ rfl, by rw [← add_field _ _ 3 (by omega)]; exact hc 3 _ rfl, by rw [← add_field _ _ 4 (by omega)]; exact hc 4 _ rfl⟩
end Go.Proofs.YtjolkombhdibcaaDoor.Print
end
section
namespace Go.Proofs.YtjolkombhdibcaaDoor.Print
open Go.RowKit Go.Proofs.YtjolkombhdibcaaDoor.Given Go.Proofs.YtjolkombhdibcaaDoorW.PrintWords Go.Proofs.YtjolkombhdibcaaDoorW.PrintLast Go.Proofs.YtjolkombhdibcaaDoorW.PrintMore
attribute [local go_sem] max2_int min2_int max_two min_two max_three min_three max_four min_four
set_option linter.unusedVariables false
set_option linter.unusedSimpArgs false
mutual
def casketref4_ParseInt.j0 : Nat → ByteArray → Bool → Option (Int × Int)
 | 0, _, _ => none
 | k + 1, x0, x4 => if x4 = true then (if 1 ≤ (x0.size : Int) then (casketref4_ParseInt.j1 k x4 (x0.extract 1 x0.size)) else (none)) else (casketref4_ParseInt.j1 k x4 x0)
def casketref4_ParseInt.j1 : Nat → Bool → ByteArray → Option (Int × Int)
 | 0, _, _ => none
 | k + 1, x4, x5 => if x5.toList = ([] : List UInt8) then (casketref4_ParseInt.j2 k x4 x5 true) else (if 0 < (x5.size : Int) then (if (bt x5 0) = 48 then (if (x5.size : Int) > 1 then (casketref4_ParseInt.j2 k x4 x5 true) else (casketref4_ParseInt.j2 k x4 x5 x4)) else (casketref4_ParseInt.j2 k x4 x5 false)) else (none))
def casketref4_ParseInt.j2 : Nat → Bool → ByteArray → Bool → Option (Int × Int)
 | 0, _, _, _ => none
 | k + 1, x4, x5, x38 => if x38 = true then (some (0, 20)) else (casketref4_ParseInt.l0 k x4 x5 0 false 0)
def casketref4_ParseInt.l0 : Nat → Bool → ByteArray → Int → Bool → Int → Option (Int × Int)
 | 0, _, _, _, _, _ => none
 | k + 1, x4, x5, x6, x7, x8 => if x8 < (x5.size : Int) then (if 0 ≤ x8 then (if (bt x5 x8) < 48 then (casketref4_ParseInt.j4 k x4 x5 x6 x7 x8 true) else (casketref4_ParseInt.j4 k x4 x5 x6 x7 x8 (decide ((bt x5 x8) > 57)))) else (none)) else (if x7 = true then (casketref4_ParseInt.j5 k x4 x6 true) else (if x4 = true then (casketref4_ParseInt.j5 k x4 x6 false) else (casketref4_ParseInt.j5 k x4 x6 (x6 == 9223372036854775808))))
def casketref4_ParseInt.j4 : Nat → Bool → ByteArray → Int → Bool → Int → Bool → Option (Int × Int)
 | 0, _, _, _, _, _, _ => none
 | k + 1, x4, x5, x6, x7, x8, x54 => if x54 = true then (some (0, 20)) else (if 0 ≤ x8 then (if x8 < (x5.size : Int) then (if x7 = true then (casketref4_ParseInt.l0 k x4 x5 x6 true (wrap64 (x8 + 1))) else (if x6 > ((9223372036854775808 - (((bt x5 x8) - 48) % 256)) / 10) then (casketref4_ParseInt.l0 k x4 x5 x6 true (wrap64 (x8 + 1))) else (casketref4_ParseInt.l0 k x4 x5 (IntKind.u64.wrap ((IntKind.u64.wrap (10 * x6)) + (((bt x5 x8) - 48) % 256))) x7 (wrap64 (x8 + 1))))) else (none)) else (none))
def casketref4_ParseInt.j5 : Nat → Bool → Int → Bool → Option (Int × Int)
 | 0, _, _, _ => none
 | k + 1, x4, x6, x80 => if x80 = true then (some (0, 13)) else (if x4 = true then (some (wrap64 ((wrap64 (-(wrap64 (IntKind.u64.wrap (x6 - 1))))) - 1), 0)) else (some (wrap64 (x6), 0)))
end
def casketref4_ParseInt.f (k : Nat) (a0 : ByteArray) : Option (Int × Int) := if (a0.size : Int) > 64 then (some (0, 2)) else (if a0.toList = ([] : List UInt8) then (casketref4_ParseInt.j0 k a0 false) else (if 0 < (a0.size : Int) then (casketref4_ParseInt.j0 k a0 ((bt a0 0) == 45)) else (none)))
end Go.Proofs.YtjolkombhdibcaaDoor.Print
end
section
namespace Go.Proofs.YtjolkombhdibcaaDoor.Sp
open Go.RowKit Go.Proofs.YtjolkombhdibcaaDoorW.PrintWords Go.Proofs.YtjolkombhdibcaaDoor.Given Go.Proofs.YtjolkombhdibcaaDoor.Print
set_option linter.unusedVariables false
set_option linter.unusedSimpArgs false
def decVal : Nat → List UInt8 → Nat
  | acc, [] => acc
  | acc, c :: r => decVal (acc * 10 + (c.toNat - 48)) r
theorem decVal_ge : ∀ (l : List UInt8) (acc : Nat), acc ≤ decVal acc l
  | [], acc => Nat.le_refl _
  | c :: r, acc => Nat.le_trans (by omega) (decVal_ge r (acc * 10 + (c.toNat - 48)))
theorem parseUintM_dig : ∀ (l : List UInt8) (acc : Nat), l.all isDig = true → acc ≤ 18446744073709551615 →
    Lib.parseUintM 18446744073709551615 acc l = if decVal acc l ≤ 18446744073709551615 then .ok (decVal acc l) else .range
  | [], acc, _, h => by rw [Lib.parseUintM]; rw [if_pos (show decVal acc [] ≤ _ from h)]; rfl
  | c :: r, acc, h, ha => by
    simp only [List.all_cons, Bool.and_eq_true] at h
    have hc : 48 ≤ c.toNat ∧ c.toNat ≤ 57 := by simpa [isDig] using h.1
    rw [Lib.parseUintM, if_pos hc]
    have hg := decVal_ge r (acc * 10 + (c.toNat - 48))
    show _ = if decVal (acc * 10 + (c.toNat - 48)) r ≤ _ then _ else _
    by_cases h1 : 1844674407370955162 ≤ acc
    · rw [if_pos h1, if_neg (by omega)]
    · rw [if_neg h1]
      by_cases h2 : 18446744073709551615 < acc * 10 + (c.toNat - 48)
      · rw [if_pos h2, if_neg (by omega)]
      · rw [if_neg h2, parseUintM_dig r _ h.2 (by omega)]
        rfl
def resI (minus : Bool) (v : Nat) : Int × Int :=
  if minus = true then (if v ≤ 9223372036854775808 then (-(v : Int), 0) else (0, 13)) else (if v < 9223372036854775808 then ((v : Int), 0) else (0, 13))
def minusB (l : List UInt8) : Bool := l.head? == some 45
def magB (l : List UInt8) : List UInt8 := if minusB l = true then l.tail else l
def parseIntT (l : List UInt8) : Int × Int :=
  if 64 < l.length then (0, 2)
  else if magB l = [] then (0, 20)
  else if (magB l).headD 0 = 48 ∧ (1 < (magB l).length ∨ minusB l = true) then (0, 20)
  else if (magB l).all isDig = true then resI (minusB l) (decVal 0 (magB l)) else (0, 20)
theorem trim_mag (l : List UInt8) : Lib.trimPrefix l [45] = magB l := by
  unfold Lib.trimPrefix Lib.hasPrefix magB minusB
  cases l with
  | nil => rfl
  | cons c r =>
    by_cases h : c = 45
    · subst h; simp
    · have h' : ¬ 45 = c := fun e => h e.symm
      simp [h, h']
theorem parseIntB_mag {l : List UInt8} (h1 : magB l ≠ []) (h2 : (magB l).all isDig = true) :
    Lib.parseIntB 64 l = if decVal 0 (magB l) ≤ 18446744073709551615 then (if minusB l = false ∧ 9223372036854775808 ≤ decVal 0 (magB l) then .range else if minusB l = true ∧ 9223372036854775808 < decVal 0 (magB l) then .range else .ok (if minusB l = true then -(decVal 0 (magB l) : Int) else decVal 0 (magB l))) else .range := by
  cases l with
  | nil => simp [magB, minusB] at h1
  | cons c r =>
    have hm : minusB (c :: r) = decide (c.toNat = 45) := by
      unfold minusB
      rw [Bool.eq_iff_iff]
      simp
      exact ⟨fun h => by rw [h]; rfl, fun h => UInt8.toNat_inj.1 h⟩
    have h43 : ¬ (c.toNat = 43) := by
      intro h
      have h5 : ¬ c.toNat = 45 := by omega
      have : magB (c :: r) = c :: r := by unfold magB; rw [hm, if_neg (by simpa using h5)]
      rw [this] at h2
      simp only [List.all_cons, Bool.and_eq_true] at h2
      have hc : 48 ≤ c.toNat ∧ c.toNat ≤ 57 := by simpa [isDig] using h2.1
      omega
    have hb : (if c.toNat = 43 ∨ c.toNat = 45 then r else c :: r) = magB (c :: r) := by
      unfold magB
      rw [hm]
      by_cases h5 : c.toNat = 45
      · rw [if_pos (.inr h5), if_pos (by simpa using h5)]; rfl
      · rw [if_neg (by omega), if_neg (by simpa using h5)]
    unfold Lib.parseIntB
    simp only [hb, Lib.parseUintB, if_neg h1, hm]
    simp only [show (2 ^ 64 - 1 : Nat) = 18446744073709551615 from rfl, show (2 ^ (64 - 1) : Nat) = 9223372036854775808 from rfl]
    rw [parseUintM_dig _ _ h2 (by omega)]
    by_cases hv : decVal 0 (magB (c :: r)) ≤ 18446744073709551615
    · simp only [if_pos hv]
      by_cases h5 : c.toNat = 45 <;> simp [h5]
    · simp only [if_neg hv]
theorem parseIntS_eq (l : List UInt8) : parseIntS l = parseIntT l := by
  unfold parseIntS parseIntT
  by_cases h0 : 64 < l.length
  · rw [if_pos h0, if_pos h0]
  · rw [if_neg h0, if_neg h0, trim_mag]
    by_cases h1 : magB l = []
    · rw [if_pos h1, h1, if_pos (show digitsB [] = false from rfl)]
    · rw [if_neg h1]
      have hne : (magB l).isEmpty = false := by simpa using h1
      by_cases h2 : (magB l).all isDig = true
      · rw [if_neg (by unfold digitsB; rw [h2, hne]; simp)]
        have hz : ((magB l).headD 0 = 48 ∧ l ≠ [48]) ↔ ((magB l).headD 0 = 48 ∧ (1 < (magB l).length ∨ minusB l = true)) := by
          constructor
          · rintro ⟨a, b⟩
            refine ⟨a, ?_⟩
            by_cases hm : minusB l = true
            · exact .inr hm
            · left
              have hl : magB l = l := by unfold magB; rw [if_neg hm]
              rw [hl] at a ⊢
              cases l with
              | nil => simp at a
              | cons c r =>
                simp at a
                subst a
                cases r with
                | nil => exact absurd rfl b
                | cons => simp
          · rintro ⟨a, b⟩
            refine ⟨a, ?_⟩
            rintro rfl
            simp [magB, minusB] at b
        by_cases h3 : (magB l).headD 0 = 48 ∧ l ≠ [48]
        · rw [if_pos h3, if_pos (hz.1 h3)]
        · rw [if_neg h3, if_neg (fun h => h3 (hz.2 h)), if_pos h2, parseIntB_mag h1 h2]
          generalize decVal 0 (magB l) = v
          unfold resI
          by_cases hm : minusB l = true
          · simp only [hm, if_true]
            by_cases hv : v ≤ 18446744073709551615
            · rw [if_pos hv]
              by_cases hv2 : v ≤ 9223372036854775808
              · rw [if_pos hv2]; simp; rw [if_neg (by omega)]
              · rw [if_neg hv2]; simp; rw [if_pos (by omega)]
            · rw [if_neg hv, if_neg (by omega)]
          · have hm' : minusB l = false := by simpa using hm
            simp only [hm', if_false, Bool.false_eq_true]
            by_cases hv : v ≤ 18446744073709551615
            · rw [if_pos hv]
              by_cases hv2 : v < 9223372036854775808
              · rw [if_pos hv2]; simp; rw [if_neg (by omega)]
              · rw [if_neg hv2]; simp; rw [if_pos (by omega)]
            · rw [if_neg hv, if_neg (by omega)]
      · have h2' : (magB l).all isDig = false := by simpa using h2
        rw [if_pos (by unfold digitsB; rw [h2']; rfl), if_neg h2]
        split <;> rfl
end Go.Proofs.YtjolkombhdibcaaDoor.Sp
end
section
namespace Go.Proofs.YtjolkombhdibcaaDoor.Sp
open Go.RowKit Go.Proofs.YtjolkombhdibcaaDoorW.PrintWords Go.Proofs.YtjolkombhdibcaaDoorW.PrintMore
set_option linter.unusedVariables false
set_option linter.unusedSimpArgs false
def twos (n : Nat) : Nat := if h : n = 0 then 0 else if n % 2 = 1 then 0 else twos (n / 2) + 1
termination_by n
decreasing_by omega
def odd (n : Nat) : Nat := n / 2 ^ twos n
def bl (n : Nat) : Nat := if h : n = 0 then 0 else bl (n / 2) + 1
termination_by n
decreasing_by omega
theorem twos_odd {n : Nat} (h : n % 2 = 1) : twos n = 0 := by rw [twos, dif_neg (by omega), if_pos h]
theorem twos_double {n : Nat} (h : 0 < n) : twos (2 * n) = twos n + 1 := by
  rw [twos, dif_neg (by omega), if_neg (by omega), show 2 * n / 2 = n by omega]
theorem odd_double {n : Nat} (h : 0 < n) : odd (2 * n) = odd n := by
  unfold odd
  rw [twos_double h, Nat.pow_succ, Nat.mul_comm (2 ^ twos n) 2, Nat.mul_div_mul_left _ _ (by decide)]
theorem odd_odd {n : Nat} (h : n % 2 = 1) : odd n = n := by unfold odd; rw [twos_odd h]; simp
theorem split : ∀ n : Nat, 0 < n → n = odd n * 2 ^ twos n ∧ odd n % 2 = 1 := by
  intro n
  induction n using Nat.strongRecOn with
  | _ n ih =>
    intro hn
    by_cases h : n % 2 = 1
    · rw [odd_odd h, twos_odd h]; simp [h]
    · obtain ⟨m, rfl⟩ : ∃ m, n = 2 * m := ⟨n / 2, by omega⟩
      obtain ⟨h1, h2⟩ := ih m (by omega) (by omega)
      rw [odd_double (by omega), twos_double (by omega), Nat.pow_succ]
      refine ⟨?_, h2⟩
      have : odd m * (2 ^ twos m * 2) = 2 * (odd m * 2 ^ twos m) := by rw [Nat.mul_comm (2 ^ twos m) 2, Nat.mul_left_comm]
      rw [this, ← h1]
theorem odd_le (n : Nat) : odd n ≤ n := Nat.div_le_self _ _
theorem odd_pos {n : Nat} (h : 0 < n) : 0 < odd n := by have := (split n h).2; omega
theorem bl_zero : bl 0 = 0 := by rw [bl, dif_pos rfl]
theorem bl_pos {n : Nat} (h : 0 < n) : bl n = bl (n / 2) + 1 := by rw [bl, dif_neg (by omega)]
theorem bl_bounds : ∀ n : Nat, 0 < n → 1 ≤ bl n ∧ 2 ^ (bl n - 1) ≤ n ∧ n < 2 ^ bl n := by
  intro n
  induction n using Nat.strongRecOn with
  | _ n ih =>
    intro hn
    rw [bl_pos hn]
    by_cases h : n / 2 = 0
    · rw [h, bl_zero]
      have : n = 1 := by omega
      subst this; simp
    · obtain ⟨h1, h2, h3⟩ := ih (n / 2) (by omega) (by omega)
      refine ⟨by omega, ?_, ?_⟩
      · rw [Nat.add_sub_cancel]
        obtain ⟨k, hk⟩ : ∃ k, bl (n / 2) = k + 1 := ⟨bl (n / 2) - 1, by omega⟩
        rw [hk] at h2 ⊢
        rw [Nat.add_sub_cancel] at h2
        rw [Nat.pow_succ]; omega
      · rw [Nat.pow_succ]; omega
theorem bl_le {n k : Nat} (h : n < 2 ^ k) : bl n ≤ k := by
  rcases Nat.eq_zero_or_pos n with e | e
  · subst e; rw [bl_zero]; omega
  · obtain ⟨a, b, c⟩ := bl_bounds n e
    have : bl n - 1 < k := (Nat.pow_lt_pow_iff_right (by decide)).1 (Nat.lt_of_le_of_lt b h)
    omega
theorem bl_gt {n k : Nat} (h : 2 ^ k ≤ n) : k < bl n := by
  have hp : 0 < 2 ^ k := Nat.two_pow_pos k
  obtain ⟨a, b, c⟩ := bl_bounds n (by omega)
  exact (Nat.pow_lt_pow_iff_right (by decide)).1 (Nat.lt_of_le_of_lt h c)
theorem bitLenAux_eq : ∀ (f n : Nat), n < 2 ^ f → Lib.bitLenAux f n = bl n
  | 0, n, h => by
    have : n = 0 := by simpa using h
    subst this; rw [bl_zero]; rfl
  | f + 1, n, h => by
    rw [Lib.bitLenAux]
    by_cases h0 : n = 0
    · subst h0; rw [if_pos rfl, bl_zero]
    · rw [if_neg h0, bl_pos (by omega), bitLenAux_eq f (n / 2) (by rw [Nat.pow_succ] at h; omega)]
      omega
theorem bitLen_eq {n : Nat} (h : n < 18446744073709551616) : Lib.bitLen n = bl n := bitLenAux_eq 64 n h
theorem ctzFrom_eq : ∀ (f n : Nat), 0 < n → n < 2 ^ f → Lib.ctzFrom f n = twos n
  | 0, n, h0, h => by simp at h; omega
  | f + 1, n, h0, h => by
    rw [Lib.ctzFrom]
    by_cases h1 : n % 2 = 1
    · rw [if_pos h1, twos_odd h1]
    · rw [if_neg h1, ctzFrom_eq f (n / 2) (by omega) (by rw [Nat.pow_succ] at h; omega)]
      obtain ⟨m, rfl⟩ : ∃ m, n = 2 * m := ⟨n / 2, by omega⟩
      rw [twos_double (by omega), show 2 * m / 2 = m by omega]; omega
theorem ctz_eq {n : Nat} (h0 : 0 < n) (h : n < 18446744073709551616) : Lib.ctz 64 n = twos n := by
  unfold Lib.ctz
  rw [if_neg (by omega)]
  exact ctzFrom_eq 64 n h0 h
def exactS (n : Nat) (e : Int) : Option Nat :=
  if n = 0 then some 0
  else if 53 < bl (odd n) ∨ 1023 < e + twos n + bl (odd n) - 1 ∨ e + twos n < -1074 then none
  else if e + twos n + bl (odd n) - 1 < -1022 then some (odd n * 2 ^ (e + twos n + 1074).toNat)
  else some ((e + twos n + bl (odd n) - 1 + 1023).toNat * 4503599627370496 + (odd n * 2 ^ (53 - bl (odd n))) % 4503599627370496)
theorem exactS_double {n : Nat} (h : 0 < n) (e : Int) : exactS (2 * n) e = exactS n (e + 1) := by
  unfold exactS
  rw [if_neg (show ¬ 2 * n = 0 by omega), if_neg (show ¬ n = 0 by omega), odd_double h, twos_double h]
  have e1 : e + ((twos n + 1 : Nat) : Int) = e + 1 + (twos n : Int) := by omega
  rw [e1]
theorem exactS_shift : ∀ (z n : Nat) (e : Int), exactS (n * 2 ^ z) e = exactS n (e + z)
  | 0, n, e => by simp
  | z + 1, n, e => by
    rcases Nat.eq_zero_or_pos n with h | h
    · subst h; simp [exactS]
    · have : n * 2 ^ (z + 1) = 2 * (n * 2 ^ z) := by rw [Nat.pow_succ, ← Nat.mul_assoc, Nat.mul_comm 2]
      rw [this, exactS_double (Nat.mul_pos h (Nat.two_pow_pos z)), exactS_shift z n (e + 1)]
      congr 1
      omega
theorem exactS_16 (n : Nat) (e : Int) : exactS (n * 16) e = exactS n (e + 4) := exactS_shift 4 n e
theorem exactS_lt {n : Nat} {e : Int} {b : Nat} (h : exactS n e = some b) : b < 9218868437227405312 := by
  unfold exactS at h
  by_cases h0 : n = 0
  · rw [if_pos h0] at h; cases h; omega
  · rw [if_neg h0] at h
    split at h
    · cases h
    · rename_i hc
      have hb := bl_bounds (odd n) (odd_pos (by omega))
      split at h
      · rename_i hl
        cases h
        have e1 : bl (odd n) + (e + twos n + 1074).toNat ≤ 52 := by omega
        have h1 : odd n * 2 ^ (e + twos n + 1074).toNat < 2 ^ bl (odd n) * 2 ^ (e + twos n + 1074).toNat := Nat.mul_lt_mul_of_pos_right hb.2.2 (Nat.two_pow_pos _)
        rw [← Nat.pow_add] at h1
        have h2 := Nat.pow_le_pow_right (n := 2) (by decide) e1
        omega
      · cases h
        have : (e + twos n + bl (odd n) - 1 + 1023).toNat ≤ 2046 := by omega
        have := Nat.mod_lt (odd n * 2 ^ (53 - bl (odd n))) (show 0 < 4503599627370496 by decide)
        omega
def val (b : Nat) : Nat → List Nat → Nat
  | acc, [] => acc
  | acc, d :: r => val b (acc * b + d) r
theorem val_append (b : Nat) : ∀ (l m : List Nat) (a : Nat), val b a (l ++ m) = val b (val b a l) m
  | [], _, _ => rfl
  | d :: r, m, a => val_append b r m _
theorem val_ge {b : Nat} (hb : 0 < b) : ∀ (l : List Nat) (a : Nat), a * b ^ l.length ≤ val b a l
  | [], a => by simp [val]
  | d :: r, a => by
    refine Nat.le_trans ?_ (val_ge hb r (a * b + d))
    rw [List.length_cons, Nat.pow_succ, Nat.mul_comm (b ^ r.length) b, ← Nat.mul_assoc]
    exact Nat.mul_le_mul_right _ (by omega)
theorem val_lt {b : Nat} : ∀ (l : List Nat) (a : Nat), (∀ d ∈ l, d < b) → val b a l < (a + 1) * b ^ l.length
  | [], a, _ => by simp [val]
  | d :: r, a, h => by
    have hd : d < b := h d (by simp)
    refine Nat.lt_of_lt_of_le (val_lt r (a * b + d) (fun x hx => h x (by simp [hx]))) ?_
    rw [List.length_cons, Nat.pow_succ, Nat.mul_comm (b ^ r.length) b, ← Nat.mul_assoc]
    refine Nat.mul_le_mul_right _ ?_
    rw [Nat.add_mul]
    omega
end Go.Proofs.YtjolkombhdibcaaDoor.Sp
end
section
namespace Go.Proofs.YtjolkombhdibcaaDoor.Print
open Go.RowKit Go.Proofs.YtjolkombhdibcaaDoor.Given Go.Proofs.YtjolkombhdibcaaDoorW.PrintWords Go.Proofs.YtjolkombhdibcaaDoorW.PrintLast Go.Proofs.YtjolkombhdibcaaDoorW.PrintMore
attribute [local go_sem] max2_int min2_int max_two min_two max_three min_three max_four min_four
set_option linter.unusedVariables false
set_option linter.unusedSimpArgs false
theorem x35_6 {p : Prop} (h : p := by first | rfl | (simp; done) | (simp [*]; done)) : p := h
theorem x35_5 {p : Prop} (h : p := by first | (with_reducible assumption) | assumption) : p := h
theorem x35_4 {p : Prop} (h : p := by have := HJ2.out; have := HJ11.out; have := HK3.out; first | omega | exact Nat.le_refl _) : p := h
theorem x35_3 {p : Prop} (h : p := by first | rfl | (simp [errW_none, errW_some] <;> rfl) | (simp [*, errW_none, errW_some] <;> rfl)) : p := h
theorem x35_2 {p : Prop} (h : p := by (with_reducible repeat (first | apply Kd.V_alloc | apply Kd.V_drewN | apply Kd.V_drew)); exact HO_0.out) : p := h
theorem x35_1 {p : Prop} (h : p := by (with_reducible repeat (first | apply Kd.V_alloc | apply Kd.V_drewN | apply Kd.V_drew)); exact HO_48.out) : p := h
theorem x35_0 {p : Prop} (h : p := by repeat (first | (with_reducible first | exact HB.out | apply below_alloc | apply pw_below_drewN | apply below_drew1) | exact HB.out)) : p := h
mutual
def numtext_exact.j1 : Nat → List Int → Int → Option (Int × Bool)
 | 0, _, _ => none
 | k + 1, x0, x1 => numtext_exact.l1 k x0 x1
def numtext_exact.j3 : Nat → List Int → Int → Option (Int × Bool)
 | 0, _, _ => none
 | k + 1, x0, x1 => if (x0.length : Int) = 0 then (some (0, true)) else (if (x0.length : Int) > 14 then (some (0, false)) else (numtext_exact.l2 k x1 0 x0 (x0.length : Int) 0))
def numtext_exact.l2 : Nat → Int → Int → List Int → Int → Int → Option (Int × Bool)
 | 0, _, _, _, _, _ => none
 | k + 1, x1, x6, x48, x49, x50 => if x50 < x49 then (if 0 ≤ x50 then (if x50 < (x48.length : Int) then (numtext_exact.l2 k x1 (Go.bits .or .u64 (IntKind.u64.wrap (x6 * 16)) (rd x48 x50)) x48 x49 (wrap64 (x50 + 1))) else (none)) else (none)) else ((bits_TrailingZeros64.f x6).bind fun t114 => (if 0 ≤ t114 then ((bits_Len64.f (shr .u64 x6 t114)).bind fun t115 => (if t115 > 53 then (numtext_exact.j5 k (wrap64 (x1 + t114)) (shr .u64 x6 t114) t115 (wrap64 ((wrap64 ((wrap64 (x1 + t114)) + t115)) - 1)) true) else (if (wrap64 ((wrap64 ((wrap64 (x1 + t114)) + t115)) - 1)) > 1023 then (numtext_exact.j5 k (wrap64 (x1 + t114)) (shr .u64 x6 t114) t115 (wrap64 ((wrap64 ((wrap64 (x1 + t114)) + t115)) - 1)) true) else (numtext_exact.j5 k (wrap64 (x1 + t114)) (shr .u64 x6 t114) t115 (wrap64 ((wrap64 ((wrap64 (x1 + t114)) + t115)) - 1)) (decide ((wrap64 (x1 + t114)) < (-1074))))))) else (none)))
def numtext_exact.j5 : Nat → Int → Int → Int → Int → Bool → Option (Int × Bool)
 | 0, _, _, _, _, _ => none
 | k + 1, x1, x6, x10, x11, x73 => if x73 = true then (some (0, false)) else (if x11 < (-1022) then (if 0 ≤ (wrap64 (x1 + 1074)) then (some (shl .u64 x6 (wrap64 (x1 + 1074)), true)) else (none)) else (if 0 ≤ (wrap64 (53 - x10)) then (some (Go.bits .or .u64 (IntKind.u64.wrap ((IntKind.u64.wrap (wrap64 (x11 + 1023))) * 4503599627370496)) (Go.bits .and .u64 (shl .u64 x6 (wrap64 (53 - x10))) 4503599627370495), true)) else (none)))
def numtext_exact.l1 : Nat → List Int → Int → Option (Int × Bool)
 | 0, _, _ => none
 | k + 1, x0, x1 => if (x0.length : Int) > 0 then (if 0 ≤ (wrap64 ((x0.length : Int) - 1)) then (if (wrap64 ((x0.length : Int) - 1)) < (x0.length : Int) then (if (rd x0 (wrap64 ((x0.length : Int) - 1))) = 0 then (if (wrap64 ((x0.length : Int) - 1)) ≤ (x0.length : Int) then (numtext_exact.l1 k (x0.take ((wrap64 ((x0.length : Int) - 1)) : Int).toNat) (wrap64 (x1 + 4))) else (none)) else (numtext_exact.j3 k x0 x1)) else (none)) else (none)) else (numtext_exact.j3 k x0 x1)
def numtext_exact.l0 : Nat → List Int → Int → Option (Int × Bool)
 | 0, _, _ => none
 | k + 1, x0, x1 => if (x0.length : Int) > 0 then (if 0 < (x0.length : Int) then (if (rd x0 0) = 0 then (if 1 ≤ (x0.length : Int) then (numtext_exact.l0 k (x0.drop 1) x1) else (none)) else (numtext_exact.j1 k x0 x1)) else (none)) else (numtext_exact.j1 k x0 x1)
end
def numtext_exact.f (k : Nat) (l0 : List Int) (a1 : Int) : Option (Int × Bool) := numtext_exact.l0 k l0 a1
set_option maxHeartbeats 8000000 in
set_option maxRecDepth 100000 in
theorem numtext_exact.calls (k : Nat) (P0_ : Nat → Prop) (A0 : Option Addr) (c0 : Nat) (l0 : List Int) (a1 : Int) (r1 : Int) (r2 : Bool) (w : World) (hG : Glob w) (hs0 : Kd.V (Kd.int .u64) 28 w w.heap.size (fun k_ => P0_ k_) (.slice A0 l0.length c0) l0) (h : numtext_exact.f k l0 a1 = some (r1, r2)) :
  Calls Tryd.prog 27 #[.slice A0 l0.length c0, .int .i64 a1] w fun e w' => e = .returned (.tuple #[.int .u64 r1, .bool r2]) ∧ Below w.heap.size w w' := by
 have HG0 := Aside0.mk hG
 clear hG
 have HO0 := Aside0.mk (show Kd.V (Kd.int .u64) 28 w w.heap.size (fun k_ => (P0_ k_ ∨ w.heap.size ≤ k_)) (.slice A0 l0.length c0) l0 from Kd.V_mono hs0 (fun k_ hk => .inl hk))
 have HB := Aside0.mk (Below.refl w.heap.size w)
 have H : (numtext_exact.l0 k l0 a1) = some (r1, r2) := h
 clear h
 have HC3 := Aside0.mk H
 clear H
 go_enter Tryd.func27, Tryd.ntmps27
 go_upto_block 0 with (fail)
 go_cut [0] (fun v0 wc => ∃ (kq : Nat) (x0_2 : List Int), Aside0 (numtext_exact.j1 kq x0_2 a1 = some (r1, r2)) ∧ Aside0 (kq ≤ k) ∧ Aside0 (Kd.V (Kd.int .u64) 28 wc w.heap.size (fun k_ => (P0_ k_ ∨ w.heap.size ≤ k_)) v0 x0_2) ∧ Aside0 (Below w.heap.size w wc))
 case first =>
  have H := HC3.out
  clear HC3
  have H' := Aside0.mk H
  clear H
  go_wp2
  go_loopg [0] k (fun kq v0 w' => ∃ (x0_1 : List Int), Aside0 (numtext_exact.l0 kq x0_1 a1 = some (r1, r2)) ∧ Aside0 (kq ≤ k) ∧ Aside0 (Kd.V (Kd.int .u64) 28 w' w.heap.size (fun k_ => (P0_ k_ ∨ w.heap.size ≤ k_)) v0 x0_1) ∧ Aside0 (Below w.heap.size w w'))
  case atStart => exact ⟨(l0), H', ⟨Nat.le_refl _⟩, ⟨by (with_reducible repeat (first | apply Kd.V_alloc | apply Kd.V_drewN | apply Kd.V_drew)); exact HO0.out⟩, ⟨x35_0⟩⟩
  case round =>
   clear H'
   obtain ⟨x0_1, HA, HK1, HO_0, HB⟩ := hrel
   cases gk with
   | zero => exact absurd HA.out (by simp [numtext_exact.l0])
   | succ k1 =>
    have H := HA.out
    clear HA
    simp only [numtext_exact.l0] at H
    by_cases c4 : (x0_1.length : Int) > 0
    ·rw [if_pos c4] at H
     have c4b0 : decide (0 < (x0_1.length : Int)) = true := decide_eq_true c4
     have c4b1 : decide (0 < x0_1.length) = true := decide_eq_true (by omega)
     clear c4
     (first | rw [c4b0] | (simp only [i64_w, i32_w]; rw [c4b0]) | skip)
     by_cases c5 : 0 < (x0_1.length : Int)
     ·rw [if_pos c5] at H
      have c5b0 := decide_eq_true c5
      have c5b1 : decide (0 < x0_1.length) = true := decide_eq_true (by omega)
      clear c5
      by_cases c6 : (rd x0_1 0) = 0
      ·rw [if_pos c6] at H
       have c6b0 := beq_iff_eq.mpr c6
       have c6b1 := bne_eq_false_iff_eq.mpr c6
       clear c6
       by_cases c7 : 1 ≤ (x0_1.length : Int)
       ·rw [if_pos c7] at H
        have c7b0 := eq_true c7
        have c7b1 := decide_eq_true c7
        clear c7
        obtain ⟨y102, hy102⟩ : ∃ y_ : List Int, y_ = (x0_1.drop 1) := ⟨_, rfl⟩
        replace H : (numtext_exact.l0 k1 y102 a1) = some (r1, r2) := by first | (rw [hy102]; with_reducible exact H) | (have H2_ := (Option.bind_some _ _).symm.trans H; rw [hy102]; with_reducible exact H2_) | (have H2_ := (Option.bind_some _ _).symm.trans H; with_reducible exact H2_) | with_reducible exact H | (rw [hy102]; exact H) | exact H
        have Ny102 := Aside0.mk hy102
        clear hy102
        have H' := Aside0.mk H
        clear H
        obtain ⟨Ao8, co8, eo8⟩ := Kd.V_slice HO_0.out
        subst eo8
        have p101 : 0 ≤ (0 : Int) := (by omega)
        have q101 : 0 < (x0_1.length : Int) := of_decide_eq_true x35_5
        obtain ⟨ad101, e101, hx101_0⟩ := Kd.at_int (Kd.V_reads' HO_0.out).2.2 0 p101 q101
        cases e101
        have qi101 : (0 < x0_1.length) = True := eq_true (by omega)
        (try rw [show ((0 : Int)).toNat = 0 from rfl] at hx101_0)
        (try rw [Addr.add_zero'] at hx101_0)
        replace p101 := eq_true p101
        replace q101 := eq_true q101
        have q9 : (1 : Int) ≤ ((x0_1.length : Int) : Int) := of_decide_eq_true x35_5
        obtain ⟨i09, hi09, _, hsz9, _⟩ := info_parts info28
        have hroom9 : x0_1.length ≤ co8 := (Kd.V_reads' HO_0.out).2.1
        have hC9 : Kd.F (Kd.int .u64) _ _ (some ad101) x0_1.length x0_1 := (Kd.V_at (base := w.heap.size) HO_0.out).2.2
        have hcut9 := cut_from (P := Tryd.prog) 59 28 .i64 Tryd.underlying59 hi09 1 hsz9 (some ad101) x0_1.length co8 1 (by omega) q9
        have hr9 := Kd.F_cut (m := (1 : Int).toNat) (c := co8) hC9 (by omega) hroom9
        obtain ⟨A9, hA9⟩ : ∃ A1, A1 = (if co8 = (1 : Int).toNat then (some ad101) else ((some ad101) : Option Addr).map (·.add ((1 : Int).toNat * 1))) := ⟨_, rfl⟩
        obtain ⟨c9, hc9⟩ : ∃ c1, c1 = co8 - (1 : Int).toNat := ⟨_, rfl⟩
        have hy9 : y102.length = x0_1.length - (1 : Int).toNat := (by rw [Ny102.out, List.length_drop] <;> omega)
        rw [show (x0_1).drop (1 : Int).toNat = y102 from Ny102.out.symm] at hr9
        replace hr9 : Kd.F (Kd.int .u64) _ _ A9 y102.length y102 := (by rw [hA9]; exact hr9)
        rw [← hy9, ← hA9, ← hc9] at hcut9
        have HO106 := Aside0.mk (show Kd.V (Kd.int .u64) 28 _ w.heap.size _ (.slice A9 y102.length c9) y102 from Kd.V_mk (by rw [hy9, hc9]; exact Nat.sub_le_sub_right hroom9 _) hr9)
        have HC106 := Aside0.mk (show y102.length ≤ c9 from by rw [hy9, hc9]; exact Nat.sub_le_sub_right hroom9 _)
        clear hr9 hC9 hroom9 hi09 hsz9 hc9
        have KY9 := Aside0.mk hy9
        have KA9 := Aside0.mk hA9
        clear hy9 hA9
        replace q9 := eq_true q9
        go_wp2
        go_roundg k1
        case measure => have := HK1.out; omega
        case rel => exact ⟨(y102), H', ⟨by have := HK1.out; omega⟩, ⟨by (with_reducible repeat (first | apply Kd.V_alloc | apply Kd.V_drewN | apply Kd.V_drew)); exact HO106.out⟩, ⟨x35_0⟩⟩
       ·rw [if_neg c7] at H
        exact absurd H (by simp)
      ·rw [if_neg c6] at H
       have c6b0 := beq_eq_false_iff_ne.mpr c6
       have c6b1 := bne_iff_ne.mpr c6
       have H' := Aside0.mk H
       clear H
       obtain ⟨Ao10, co10, eo10⟩ := Kd.V_slice HO_0.out
       subst eo10
       have p101 : 0 ≤ (0 : Int) := (by omega)
       have q101 : 0 < (x0_1.length : Int) := of_decide_eq_true x35_5
       obtain ⟨ad101, e101, hx101_0⟩ := Kd.at_int (Kd.V_reads' HO_0.out).2.2 0 p101 q101
       cases e101
       have qi101 : (0 < x0_1.length) = True := eq_true (by omega)
       (try rw [show ((0 : Int)).toNat = 0 from rfl] at hx101_0)
       (try rw [Addr.add_zero'] at hx101_0)
       replace p101 := eq_true p101
       replace q101 := eq_true q101
       go_wp2
       go_meet
       case rel => exact ⟨_, (x0_1), H', ⟨by have := HK1.out; first | omega | exact Nat.le_refl _⟩, ⟨x35_2⟩, ⟨x35_0⟩⟩
     ·rw [if_neg c5] at H
      exact absurd H (by simp)
    ·rw [if_neg c4] at H
     have c4b0 : decide (0 < (x0_1.length : Int)) = false := decide_eq_false c4
     have c4b1 : decide (0 < x0_1.length) = false := decide_eq_false (by omega)
     clear c4
     (first | rw [c4b0] | (simp only [i64_w, i32_w]; rw [c4b0]) | skip)
     have H' := Aside0.mk H
     clear H
     obtain ⟨Ao11, co11, eo11⟩ := Kd.V_slice HO_0.out
     subst eo11
     go_wp2
     go_meet
     case rel => exact ⟨_, (x0_1), H', ⟨by have := HK1.out; first | omega | exact Nat.le_refl _⟩, ⟨x35_2⟩, ⟨x35_0⟩⟩
 case rest =>
  clear HC3
  obtain ⟨kq, x0_2, HA, HJ2, HO_0, HB⟩ := hcut
  cases kq with
  | zero => exact absurd HA.out (by simp [numtext_exact.j1])
  | succ kj2 =>
   have H := HA.out
   clear HA
   simp only [numtext_exact.j1] at H
   have HC12 := Aside0.mk H
   clear H
   go_upto_block 2 with (fail)
   go_cut [0, 1] (fun v0 v1 wc => ∃ (kq : Nat) (x0_11 : List Int) (x1_11 : Int), v1 = .int .i64 x1_11 ∧ Aside0 (numtext_exact.j3 kq x0_11 x1_11 = some (r1, r2)) ∧ Aside0 (kq ≤ kj2) ∧ Aside0 (Kd.V (Kd.int .u64) 28 wc w.heap.size (fun k_ => (P0_ k_ ∨ w.heap.size ≤ k_)) v0 x0_11) ∧ Aside0 (Below w.heap.size w wc))
   case first =>
    have H := HC12.out
    clear HC12
    have H' := Aside0.mk H
    clear H
    go_wp2
    go_loopg [0, 1] kj2 (fun kq v0 v1 w' => ∃ (x0_2 : List Int) (x1_2 : Int), v1 = .int .i64 x1_2 ∧ Aside0 (numtext_exact.l1 kq x0_2 x1_2 = some (r1, r2)) ∧ Aside0 (kq ≤ kj2) ∧ Aside0 (Kd.V (Kd.int .u64) 28 w' w.heap.size (fun k_ => (P0_ k_ ∨ w.heap.size ≤ k_)) v0 x0_2) ∧ Aside0 (Below w.heap.size w w'))
    case atStart => exact ⟨(x0_2), (a1), x35_6, H', ⟨Nat.le_refl _⟩, ⟨x35_2⟩, ⟨x35_0⟩⟩
    case round =>
     clear H'
     obtain ⟨x0_2, x1_2, rfl, HA, HK2, HO_0, HB⟩ := hrel
     cases gk with
     | zero => exact absurd HA.out (by simp [numtext_exact.l1])
     | succ k2 =>
      have H := HA.out
      clear HA
      simp only [numtext_exact.l1] at H
      by_cases c13 : (x0_2.length : Int) > 0
      ·rw [if_pos c13] at H
       have c13b0 : decide (0 < (x0_2.length : Int)) = true := decide_eq_true c13
       have c13b1 : decide (0 < x0_2.length) = true := decide_eq_true (by omega)
       clear c13
       (first | rw [c13b0] | (simp only [i64_w, i32_w]; rw [c13b0]) | skip)
       obtain ⟨ji14, hji14⟩ : ∃ j_ : Int, (wrap64 ((x0_2.length : Int) - 1)) = j_ := ⟨_, rfl⟩
       replace H : (if 0 ≤ (ji14) then (if (ji14) < (x0_2.length : Int) then (if (rd x0_2 (ji14)) = 0 then (if (ji14) ≤ (x0_2.length : Int) then (numtext_exact.l1 k2 (x0_2.take ((ji14) : Int).toNat) (wrap64 (x1_2 + 4))) else (none)) else (numtext_exact.j3 k2 x0_2 x1_2)) else (none)) else (none)) = some (r1, r2) := by first | (rw [hji14] at H; exact H) | (simp only [hji14] at H ⊢; exact H)
       have hji14w : (IntKind.i64.wrap ((x0_2.length : Int) - 1)) = ji14 := (i64_w _).trans hji14
       by_cases c15 : 0 ≤ (ji14)
       ·rw [if_pos c15] at H
        have c15b0 := decide_eq_true c15
        clear c15
        by_cases c16 : (ji14) < (x0_2.length : Int)
        ·rw [if_pos c16] at H
         have c16b0 := decide_eq_true c16
         clear c16
         by_cases c17 : (rd x0_2 (ji14)) = 0
         ·rw [if_pos c17] at H
          have c17b0 := beq_iff_eq.mpr c17
          have c17b1 := bne_eq_false_iff_eq.mpr c17
          clear c17
          have c18b0 := eq_true (of_decide_eq_true x35_5 : 0 ≤ (ji14))
          by_cases c19 : (ji14) ≤ (x0_2.length : Int)
          ·rw [if_pos c19] at H
           have c19b0 := eq_true c19
           have c19b1 := decide_eq_true c19
           clear c19
           obtain ⟨y108, hy108⟩ : ∃ y_ : List Int, y_ = (x0_2.take ((ji14) : Int).toNat) := ⟨_, rfl⟩
           replace H : (numtext_exact.l1 k2 y108 (wrap64 (x1_2 + 4))) = some (r1, r2) := by first | (rw [hy108]; with_reducible exact H) | (have H2_ := (Option.bind_some _ _).symm.trans H; rw [hy108]; with_reducible exact H2_) | (have H2_ := (Option.bind_some _ _).symm.trans H; with_reducible exact H2_) | with_reducible exact H | (rw [hy108]; exact H) | exact H
           have Ny108 := Aside0.mk hy108
           clear hy108
           have H' := Aside0.mk H
           clear H
           obtain ⟨Ao20, co20, eo20⟩ := Kd.V_slice HO_0.out
           subst eo20
           have p107 : 0 ≤ ((ji14) : Int) := of_decide_eq_true x35_5
           have q107 : (ji14) < (x0_2.length : Int) := of_decide_eq_true x35_5
           obtain ⟨ad107, e107, hx107_0⟩ := Kd.at_int (Kd.V_reads' HO_0.out).2.2 (ji14) p107 q107
           cases e107
           replace p107 := eq_true p107
           replace q107 := eq_true q107
           have q21 : ((ji14) : Int) ≤ ((x0_2.length : Int) : Int) := of_decide_eq_true x35_5
           obtain ⟨i021, hi021, _, hsz21, _⟩ := info_parts info28
           have hroom21 : x0_2.length ≤ co20 := (Kd.V_reads' HO_0.out).2.1
           have hC21 : Kd.F (Kd.int .u64) _ _ (some ad107) x0_2.length x0_2 := (Kd.V_at (base := w.heap.size) HO_0.out).2.2
           have hcut21 := cut_to (P := Tryd.prog) 59 28 .i64 Tryd.underlying59 hi021 (some ad107) x0_2.length co20 (ji14) (of_decide_eq_true x35_5) q21 hroom21
           have hr21 := Kd.F_take (m := ((ji14) : Int).toNat) hC21 (by omega)
           have hy21 : y108.length = ((ji14) : Int).toNat := (by rw [Ny108.out, List.length_take]; omega)
           rw [← Ny108.out] at hr21
           rw [← hy21] at hcut21
           have HO112 := Aside0.mk (show Kd.V (Kd.int .u64) 28 _ w.heap.size _ (.slice (some ad107) y108.length co20) y108 from Kd.V_mk (by omega) hr21)
           have HC112 := Aside0.mk (show y108.length ≤ co20 from by omega)
           clear hr21 hC21 hroom21 hi021 hsz21
           have KY21 := Aside0.mk hy21
           clear hy21
           replace q21 := eq_true q21
           go_wp2
           go_roundg k2
           case measure => have := HJ2.out; have := HK2.out; omega
           case rel => exact ⟨(y108), (wrap64 (x1_2 + 4)), x35_6, H', ⟨by have := HJ2.out; have := HK2.out; omega⟩, ⟨by (with_reducible repeat (first | apply Kd.V_alloc | apply Kd.V_drewN | apply Kd.V_drew)); exact HO112.out⟩, ⟨x35_0⟩⟩
          ·rw [if_neg c19] at H
           exact absurd H (by simp)
         ·rw [if_neg c17] at H
          have c17b0 := beq_eq_false_iff_ne.mpr c17
          have c17b1 := bne_iff_ne.mpr c17
          have H' := Aside0.mk H
          clear H
          obtain ⟨Ao22, co22, eo22⟩ := Kd.V_slice HO_0.out
          subst eo22
          have p107 : 0 ≤ ((ji14) : Int) := of_decide_eq_true x35_5
          have q107 : (ji14) < (x0_2.length : Int) := of_decide_eq_true x35_5
          obtain ⟨ad107, e107, hx107_0⟩ := Kd.at_int (Kd.V_reads' HO_0.out).2.2 (ji14) p107 q107
          cases e107
          replace p107 := eq_true p107
          replace q107 := eq_true q107
          go_wp2
          go_meet
          case rel => exact ⟨_, (x0_2), (x1_2), x35_6, H', ⟨by have := HJ2.out; have := HK2.out; first | omega | exact Nat.le_refl _⟩, ⟨x35_2⟩, ⟨x35_0⟩⟩
        ·rw [if_neg c16] at H
         exact absurd H (by simp)
       ·rw [if_neg c15] at H
        exact absurd H (by simp)
      ·rw [if_neg c13] at H
       have c13b0 : decide (0 < (x0_2.length : Int)) = false := decide_eq_false c13
       have c13b1 : decide (0 < x0_2.length) = false := decide_eq_false (by omega)
       clear c13
       (first | rw [c13b0] | (simp only [i64_w, i32_w]; rw [c13b0]) | skip)
       have H' := Aside0.mk H
       clear H
       obtain ⟨Ao23, co23, eo23⟩ := Kd.V_slice HO_0.out
       subst eo23
       go_wp2
       go_meet
       case rel => exact ⟨_, (x0_2), (x1_2), x35_6, H', ⟨by have := HJ2.out; have := HK2.out; first | omega | exact Nat.le_refl _⟩, ⟨x35_2⟩, ⟨x35_0⟩⟩
   case rest =>
    clear HC12
    obtain ⟨kq, x0_11, x1_11, rfl, HA, HJ11, HO_0, HB⟩ := hcut
    cases kq with
    | zero => exact absurd HA.out (by simp [numtext_exact.j3])
    | succ kj11 =>
     have H := HA.out
     clear HA
     simp only [numtext_exact.j3] at H
     by_cases c24 : (x0_11.length : Int) = 0
     ·rw [if_pos c24] at H
      have c24b0 := beq_iff_eq.mpr c24
      have c24b1 := bne_eq_false_iff_eq.mpr c24
      clear c24
      simp only [Option.some.injEq, Prod.mk.injEq] at H
      obtain ⟨rfl, rfl⟩ := H
      obtain ⟨Ao25, co25, eo25⟩ := Kd.V_slice HO_0.out
      subst eo25
      go_wp2
      go_ret2
      exact ⟨x35_3, x35_0⟩
     ·rw [if_neg c24] at H
      have c24b0 := beq_eq_false_iff_ne.mpr c24
      have c24b1 := bne_iff_ne.mpr c24
      have c24b2 : ¬ (x0_11 = []) := fun h_ => c24 (by rw [h_]; rfl)
      by_cases c26 : (x0_11.length : Int) > 14
      ·rw [if_pos c26] at H
       have c26b0 : decide (14 < (x0_11.length : Int)) = true := decide_eq_true c26
       have c26b1 : decide (14 < x0_11.length) = true := decide_eq_true (by omega)
       clear c26
       simp only [Option.some.injEq, Prod.mk.injEq] at H
       obtain ⟨rfl, rfl⟩ := H
       obtain ⟨Ao27, co27, eo27⟩ := Kd.V_slice HO_0.out
       subst eo27
       go_wp2
       go_ret2
       exact ⟨x35_3, x35_0⟩
      ·rw [if_neg c26] at H
       have c26b0 : decide (14 < (x0_11.length : Int)) = false := decide_eq_false c26
       have c26b1 : decide (14 < x0_11.length) = false := decide_eq_false (by omega)
       clear c26
       have H' := Aside0.mk H
       clear H
       obtain ⟨Ao28, co28, eo28⟩ := Kd.V_slice HO_0.out
       subst eo28
       go_wp2
       go_loopg [6, 50] kj11 (fun kq v6 v50 w' => ∃ (x6_3 : Int) (x50_3 : Int), v6 = .int .u64 x6_3 ∧ v50 = .int .i64 x50_3 ∧ Aside0 (numtext_exact.l2 kq x1_11 x6_3 x0_11 (x0_11.length : Int) x50_3 = some (r1, r2)) ∧ Aside0 (kq ≤ kj11) ∧ Aside0 (Kd.V (Kd.int .u64) 28 w' w.heap.size (fun k_ => (P0_ k_ ∨ w.heap.size ≤ k_)) (.slice Ao28 x0_11.length co28) x0_11) ∧ Aside0 (Below w.heap.size w w'))
       case atStart => exact ⟨(0), (0), x35_6, x35_6, H', ⟨Nat.le_refl _⟩, ⟨x35_2⟩, ⟨x35_0⟩⟩
       case round =>
        clear H'
        obtain ⟨x6_3, x50_3, rfl, rfl, HA, HK3, HO_48, HB⟩ := hrel
        cases gk with
        | zero => exact absurd HA.out (by simp [numtext_exact.l2])
        | succ k3 =>
         have H := HA.out
         clear HA
         simp only [numtext_exact.l2] at H
         by_cases c29 : x50_3 < (x0_11.length : Int)
         ·rw [if_pos c29] at H
          have c29b0 := decide_eq_true c29
          clear c29
          by_cases c30 : 0 ≤ x50_3
          ·rw [if_pos c30] at H
           have c30b0 := decide_eq_true c30
           clear c30
           by_cases c31 : x50_3 < (x0_11.length : Int)
           ·rw [if_pos c31] at H
            have c31b0 := decide_eq_true c31
            clear c31
            have H' := Aside0.mk H
            clear H
            have p113 : 0 ≤ (x50_3 : Int) := of_decide_eq_true x35_5
            have q113 : x50_3 < (x0_11.length : Int) := of_decide_eq_true x35_5
            obtain ⟨ad113, e113, hx113_0⟩ := Kd.at_int (Kd.V_reads' HO_48.out).2.2 x50_3 p113 q113
            cases e113
            replace p113 := eq_true p113
            replace q113 := eq_true q113
            go_wp2
            go_roundg k3
            case measure => have := HJ2.out; have := HJ11.out; have := HK3.out; omega
            case rel => exact ⟨(Go.bits .or .u64 (IntKind.u64.wrap (x6_3 * 16)) (rd x0_11 x50_3)), (wrap64 (x50_3 + 1)), x35_6, x35_6, H', ⟨by have := HJ2.out; have := HJ11.out; have := HK3.out; omega⟩, ⟨x35_1⟩, ⟨x35_0⟩⟩
           ·rw [if_neg c31] at H
            exact absurd H (by simp)
          ·rw [if_neg c30] at H
           exact absurd H (by simp)
         ·rw [if_neg c29] at H
          have c29b0 := decide_eq_false c29
          clear c29
          obtain ⟨t114, A320, H⟩ := Option.bind_eq_some_iff.mp H
          have A32 := Aside0.mk A320
          clear A320
          by_cases c33 : 0 ≤ t114
          ·rw [if_pos c33] at H
           have c33b0 := eq_true c33
           have c33b1 := decide_eq_true c33
           clear c33
           obtain ⟨ji34, hji34⟩ : ∃ j_ : Int, (shr .u64 x6_3 t114) = j_ := ⟨_, rfl⟩
           replace H : ((bits_Len64.f (ji34)).bind fun t115 => (if t115 > 53 then (numtext_exact.j5 k3 (wrap64 (x1_11 + t114)) ji34 t115 (wrap64 ((wrap64 ((wrap64 (x1_11 + t114)) + t115)) - 1)) true) else (if (wrap64 ((wrap64 ((wrap64 (x1_11 + t114)) + t115)) - 1)) > 1023 then (numtext_exact.j5 k3 (wrap64 (x1_11 + t114)) ji34 t115 (wrap64 ((wrap64 ((wrap64 (x1_11 + t114)) + t115)) - 1)) true) else (numtext_exact.j5 k3 (wrap64 (x1_11 + t114)) ji34 t115 (wrap64 ((wrap64 ((wrap64 (x1_11 + t114)) + t115)) - 1)) (decide ((wrap64 (x1_11 + t114)) < (-1074))))))) = some (r1, r2) := by first | (rw [hji34] at H; exact H) | (simp only [hji34] at H ⊢; exact H)
           (try rw [hji34] at A32)
           have hji34_ : (x6_3 / 2 ^ min t114.toNat 64) = ji34 := hji34
           have hji34z : t114 ≤ 64 → (x6_3 / 2 ^ t114.toNat) = ji34 := shr_small hji34
           obtain ⟨t115, A350, H⟩ := Option.bind_eq_some_iff.mp H
           have A35 := Aside0.mk A350
           clear A350
           have HC36 := Aside0.mk H
           clear H
           go_upto_region 21 with (first | ((with_reducible refine gate_callee (f := 48) rfl ?_); refine goesL_ (some 60) rfl rfl Tryd.func48 (by kernel_rfl) rfl #[.int .u64 x6_3] rfl (by (try simp only [List.map_toArray, List.map_cons, List.map_nil]); first | done | rfl | (simp only [List.length_drop, List.length_take]; rfl)) ?_; (with_reducible refine (bits_TrailingZeros64.calls (hG := (by first | exact Glob.at_ HG0.out x35_0 | exact Glob.at_ HG0.out (Below.refl _ _))) x6_3 t114 _ A32.out).mono ?_); rintro e w37 ⟨rfl, hb⟩; refine ⟨_, rfl, ?_⟩; have n0_ := Aside0.mk (Kd.V_below x35_1 hb); have n1_ := Aside0.mk (below_step x35_0 hb); clear HO_48; clear HB; have HO_48 := n0_; have HB := n1_; clear n0_ n1_) | ((with_reducible refine gate_callee (f := 49) rfl ?_); refine goesL_ (some 68) rfl rfl Tryd.func49 (by kernel_rfl) rfl #[.int .u64 ji34] rfl (by (try simp only [List.map_toArray, List.map_cons, List.map_nil]); first | done | (simp only [hji34]; rfl) | rfl | (simp only [List.length_drop, List.length_take]; rfl)) ?_; (with_reducible refine (bits_Len64.calls ji34 t115 _ A35.out).mono ?_); rintro e w' ⟨rfl, ⟨nd, rfl⟩⟩; refine ⟨_, rfl, ?_⟩))
           (try simp only [Act.put, List.setIfInBounds_toArray, List.set_cons_zero, List.set_cons_succ])
           go_cut [73] (fun v73 wc => ∃ (kq : Nat) (x73_35 : Bool), v73 = .bool x73_35 ∧ Aside0 (numtext_exact.j5 kq (wrap64 (x1_11 + t114)) ji34 t115 (wrap64 ((wrap64 ((wrap64 (x1_11 + t114)) + t115)) - 1)) x73_35 = some (r1, r2)) ∧ Aside0 (kq ≤ k3) ∧ Aside0 (Below w.heap.size w wc))
           case first =>
            have H := HC36.out
            clear HC36
            by_cases c38 : t115 > 53
            ·rw [if_pos c38] at H
             have c38b0 : decide (53 < t115) = true := decide_eq_true c38
             clear c38
             (first | rw [c38b0] | (simp only [i64_w, i32_w]; rw [c38b0]) | skip)
             have H' := Aside0.mk H
             clear H
             go_wp2
             go_meet
             case rel => exact ⟨_, (true), x35_6, H', ⟨x35_4⟩, ⟨x35_0⟩⟩
            ·rw [if_neg c38] at H
             have c38b0 : decide (53 < t115) = false := decide_eq_false c38
             clear c38
             (first | rw [c38b0] | (simp only [i64_w, i32_w]; rw [c38b0]) | skip)
             by_cases c39 : (wrap64 ((wrap64 ((wrap64 (x1_11 + t114)) + t115)) - 1)) > 1023
             ·rw [if_pos c39] at H
              have c39b0 : decide (1023 < (wrap64 ((wrap64 ((wrap64 (x1_11 + t114)) + t115)) - 1))) = true := decide_eq_true c39
              clear c39
              have H' := Aside0.mk H
              clear H
              go_wp2
              go_meet
              case rel => exact ⟨_, (true), x35_6, H', ⟨x35_4⟩, ⟨x35_0⟩⟩
             ·rw [if_neg c39] at H
              have c39b0 : decide (1023 < (wrap64 ((wrap64 ((wrap64 (x1_11 + t114)) + t115)) - 1))) = false := decide_eq_false c39
              clear c39
              have H' := Aside0.mk H
              clear H
              go_wp2
              go_meet
              case rel => exact ⟨_, (decide ((wrap64 (x1_11 + t114)) < (-1074))), x35_6, H', ⟨x35_4⟩, ⟨x35_0⟩⟩
           case rest =>
            clear HC36
            obtain ⟨kq, x73_35, rfl, HA, HJ35, HB⟩ := hcut
            cases kq with
            | zero => exact absurd HA.out (by simp [numtext_exact.j5])
            | succ kj35 =>
             have H := HA.out
             clear HA
             simp only [numtext_exact.j5] at H
             by_cases c40 : x73_35 = true
             ·subst c40
              rw [if_pos rfl] at H
              simp only [Option.some.injEq, Prod.mk.injEq] at H
              obtain ⟨rfl, rfl⟩ := H
              go_wp2
              go_ret2
              exact ⟨by first | rfl | (simp [errW_none, errW_some] <;> rfl) | (simp only [← hji34]; first | rfl | (simp [errW_none, errW_some] <;> rfl)) | (simp [*, errW_none, errW_some] <;> rfl), x35_0⟩
             ·replace c40 := Bool.eq_false_iff.mpr c40
              subst c40
              rw [if_neg (show ¬ (false = true) by decide)] at H
              by_cases c41 : (wrap64 ((wrap64 ((wrap64 (x1_11 + t114)) + t115)) - 1)) < (-1022)
              ·rw [if_pos c41] at H
               have c41b0 := decide_eq_true c41
               clear c41
               obtain ⟨ji42, hji42⟩ : ∃ j_ : Int, (wrap64 ((wrap64 (x1_11 + t114)) + 1074)) = j_ := ⟨_, rfl⟩
               replace H : (if 0 ≤ (ji42) then (some (shl .u64 ji34 (ji42), true)) else (none)) = some (r1, r2) := by first | (rw [hji42] at H; exact H) | (simp only [hji42] at H ⊢; exact H)
               have hji42w : (IntKind.i64.wrap ((wrap64 (x1_11 + t114)) + 1074)) = ji42 := (i64_w _).trans hji42
               by_cases c43 : 0 ≤ (ji42)
               ·rw [if_pos c43] at H
                have c43b0 := eq_true c43
                have c43b1 := decide_eq_true c43
                clear c43
                obtain ⟨ji44, hji44⟩ : ∃ j_ : Int, (shl .u64 ji34 (ji42)) = j_ := ⟨_, rfl⟩
                replace H : (some (ji44, true)) = some (r1, r2) := by first | (rw [hji44] at H; exact H) | (simp only [hji44] at H ⊢; exact H)
                have hji44_ : (IntKind.u64.wrap (ji34 * 2 ^ min (ji42).toNat 64)) = ji44 := hji44
                have hji44z : (ji42) ≤ 64 → (IntKind.u64.wrap (ji34 * 2 ^ (ji42).toNat)) = ji44 := shl_small hji44
                simp only [Option.some.injEq, Prod.mk.injEq] at H
                obtain ⟨rfl, rfl⟩ := H
                go_wp2
                go_ret2
                exact ⟨by first | rfl | (simp [errW_none, errW_some] <;> rfl) | (simp only [← hji34, ← hji42, ← hji44]; first | rfl | (simp [errW_none, errW_some] <;> rfl)) | (simp [*, errW_none, errW_some] <;> rfl), x35_0⟩
               ·rw [if_neg c43] at H
                exact absurd H (by simp)
              ·rw [if_neg c41] at H
               have c41b0 := decide_eq_false c41
               clear c41
               obtain ⟨ji45, hji45⟩ : ∃ j_ : Int, (wrap64 (53 - t115)) = j_ := ⟨_, rfl⟩
               replace H : (if 0 ≤ (ji45) then (some (Go.bits .or .u64 (IntKind.u64.wrap ((IntKind.u64.wrap (wrap64 ((wrap64 ((wrap64 ((wrap64 (x1_11 + t114)) + t115)) - 1)) + 1023))) * 4503599627370496)) (Go.bits .and .u64 (shl .u64 ji34 (ji45)) 4503599627370495), true)) else (none)) = some (r1, r2) := by first | (rw [hji45] at H; exact H) | (simp only [hji45] at H ⊢; exact H)
               have hji45w : (IntKind.i64.wrap (53 - t115)) = ji45 := (i64_w _).trans hji45
               by_cases c46 : 0 ≤ (ji45)
               ·rw [if_pos c46] at H
                have c46b0 := eq_true c46
                have c46b1 := decide_eq_true c46
                clear c46
                obtain ⟨ji47, hji47⟩ : ∃ j_ : Int, (shl .u64 ji34 (ji45)) = j_ := ⟨_, rfl⟩
                replace H : (some (Go.bits .or .u64 (IntKind.u64.wrap ((IntKind.u64.wrap (wrap64 ((wrap64 ((wrap64 ((wrap64 (x1_11 + t114)) + t115)) - 1)) + 1023))) * 4503599627370496)) (Go.bits .and .u64 (ji47) 4503599627370495), true)) = some (r1, r2) := by first | (rw [hji47] at H; exact H) | (simp only [hji47] at H ⊢; exact H)
                have hji47_ : (IntKind.u64.wrap (ji34 * 2 ^ min (ji45).toNat 64)) = ji47 := hji47
                have hji47z : (ji45) ≤ 64 → (IntKind.u64.wrap (ji34 * 2 ^ (ji45).toNat)) = ji47 := shl_small hji47
                simp only [Option.some.injEq, Prod.mk.injEq] at H
                obtain ⟨rfl, rfl⟩ := H
                go_wp2
                go_ret2
                exact ⟨by first | rfl | (simp [errW_none, errW_some] <;> rfl) | (simp only [← hji34, ← hji45, ← hji47]; first | rfl | (simp [errW_none, errW_some] <;> rfl)) | (simp [*, errW_none, errW_some] <;> rfl), x35_0⟩
               ·rw [if_neg c46] at H
                exact absurd H (by simp)
          ·rw [if_neg c33] at H
           exact absurd H (by simp)
end Go.Proofs.YtjolkombhdibcaaDoor.Print
end
section
namespace Go.Proofs.YtjolkombhdibcaaDoor.Sp
open Go.RowKit Go.Proofs.YtjolkombhdibcaaDoorW.PrintWords Go.Proofs.YtjolkombhdibcaaDoorW.PrintMore Go.Proofs.YtjolkombhdibcaaDoor.Given Go.Proofs.YtjolkombhdibcaaDoor.Print
set_option linter.unusedVariables false
set_option linter.unusedSimpArgs false
def ints (l : List Nat) : List Int := l.map fun d : Nat => (d : Int)
theorem ints_len (l : List Nat) : (ints l).length = l.length := by simp [ints]
theorem ints_app (l m : List Nat) : ints (l ++ m) = ints l ++ ints m := by simp [ints]
theorem rd_ints (l : List Nat) (i : Nat) : rd (ints l) (i : Int) = (l.getD i 0 : Nat) := by
  unfold rd ints
  simp only [Int.toNat_natCast, List.getD_eq_getElem?_getD, List.getElem?_map]
  cases l[i]? <;> rfl
theorem getD_last (m : List Nat) (d : Nat) : (m ++ [d]).getD m.length 0 = d := by simp [List.getD_eq_getElem?_getD]
theorem take_last (m : List Nat) (d : Nat) : (ints (m ++ [d])).take m.length = ints m := by
  rw [ints_app, List.take_append_of_le_length (by rw [ints_len]; exact Nat.le_refl _), List.take_of_length_le (by rw [ints_len]; exact Nat.le_refl _)]
theorem wr64 (n : Int) (h0 : 0 ≤ n) (h1 : n < 2 ^ 64) : IntKind.u64.wrap n = n := by
  have h64 : (2 : Int) ^ 64 = 18446744073709551616 := by decide
  exact wu64 h0 (by omega)
theorem u64_or16 (x d : Nat) (hx : x < 1152921504606846976) (hd : d < 16) : Go.bits .or .u64 ((x : Int) * 16) (d : Int) = ((x * 16 + d : Nat) : Int) := by
  have h64 : (2 : Int) ^ 64 = 18446744073709551616 := by decide
  have h4 : (2 : Int) ^ 4 = 16 := by decide
  rw [bits_join .u64 64 (by decide) wr64 4 _ _ (by omega) (by omega) (by omega) (by omega) (by omega) (by omega)]
  omega
theorem u64_or52 (x y : Nat) (hx : x < 4096) (hy : y < 4503599627370496) : Go.bits .or .u64 ((x : Int) * 4503599627370496) (y : Int) = ((x * 4503599627370496 + y : Nat) : Int) := by
  have h64 : (2 : Int) ^ 64 = 18446744073709551616 := by decide
  have h52 : (2 : Int) ^ 52 = 4503599627370496 := by decide
  rw [bits_join .u64 64 (by decide) wr64 52 _ _ (by omega) (by omega) (by omega) (by omega) (by omega) (by omega)]
  omega
theorem u64_or63 (y : Nat) (hy : y < 9223372036854775808) : Go.bits .or .u64 (y : Int) 9223372036854775808 = ((9223372036854775808 + y : Nat) : Int) := by
  have h := (bits_nat .u64 64 (by decide) wr64 y 9223372036854775808 (by omega) (by omega)).2
  have e : (((9223372036854775808 : Nat)) : Int) = 9223372036854775808 := rfl
  rw [e] at h
  rw [h]
  congr 1
  rw [Nat.or_comm]
  have h1 := Nat.two_pow_add_eq_or_of_lt (i := 63) (b := y) (by omega) 1
  rw [show (2 ^ 63 * 1 : Nat) = 9223372036854775808 by decide] at h1
  exact h1.symm
theorem u64_and52 (x : Nat) (hx : x < 18446744073709551616) : Go.bits .and .u64 (x : Int) 4503599627370495 = ((x % 4503599627370496 : Nat) : Int) := by
  have h64 : (2 : Int) ^ 64 = 18446744073709551616 := by decide
  have h := bits_mask .u64 64 (by decide) wr64 52 (by decide) (x : Int) (by omega) (by omega)
  have h52 : (2 : Int) ^ 52 = 4503599627370496 := by decide
  rw [h52] at h
  have e : (4503599627370496 : Int) - 1 = 4503599627370495 := by decide
  rw [e] at h
  rw [h]
  omega
def resE : Option Nat → Int × Bool
  | none => (0, false)
  | some b => ((b : Int), true)
theorem shr_ev (n : Nat) (h : n < 18446744073709551616) : shr .u64 (n : Int) (twos n : Int) = (odd n : Int) := by
  unfold shr odd
  have ht : twos n ≤ 64 := by
    rcases Nat.eq_zero_or_pos n with h0 | h0
    · subst h0; rw [twos, dif_pos rfl]; omega
    · have h1 := split n h0
      have h2 := odd_pos h0
      have h3 : 2 ^ twos n ≤ n := by
        have := Nat.le_mul_of_pos_left (2 ^ twos n) h2
        omega
      have h4 : 2 ^ twos n < 2 ^ 64 := by omega
      have := (Nat.pow_lt_pow_iff_right (by decide)).1 h4
      omega
  rw [Int.toNat_natCast, show IntKind.u64.bits = 64 from rfl, Nat.min_eq_left ht]
  push_cast
  rfl
theorem shl_ev (n k : Nat) (hk : k ≤ 64) (h : n * 2 ^ k < 18446744073709551616) : shl .u64 (n : Int) (k : Int) = ((n * 2 ^ k : Nat) : Int) := by
  unfold shl
  rw [Int.toNat_natCast, show IntKind.u64.bits = 64 from rfl, Nat.min_eq_left hk]
  have e : (n : Int) * 2 ^ k = ((n * 2 ^ k : Nat) : Int) := by push_cast; rfl
  rw [e, wu64 (by omega) (by omega)]
theorem exactS_no {n : Nat} {e : Int} (h0 : 0 < n) (h : 53 < bl (odd n) ∨ 1023 < e + twos n + bl (odd n) - 1 ∨ e + twos n < -1074) : exactS n e = none := by
  unfold exactS; rw [if_neg (by omega), if_pos h]
theorem ex_j5_no (e m : Int) (x y : Int) : Ev (fun k => numtext_exact.j5 k e m x y true) (0, false) := by
  refine Ev.step (fun k => by rw [numtext_exact.j5]) ?_
  exact Ev.yes rfl (Ev.ret rfl)
theorem ex_end (n : Nat) (e : Int) (l : List Int) (a : Int) (h0 : 0 < n) (hn : n < 18446744073709551616) (he : -1000000 ≤ e ∧ e ≤ 1000000) (i : Nat) (hi : l.length = i) :
    Ev (fun k => numtext_exact.l2 k e (n : Int) l (i : Int) (i : Int)) (resE (exactS n e)) := by
  refine Ev.step (fun k => by rw [numtext_exact.l2]) ?_
  refine Ev.no (by omega) ?_
  have ht : twos n ≤ 64 := by
    have h1 := split n h0
    have h2 := odd_pos h0
    have h3 : 2 ^ twos n ≤ n := by
      have := Nat.le_mul_of_pos_left (2 ^ twos n) h2
      omega
    have h4 : 2 ^ twos n < 2 ^ 64 := by omega
    have := (Nat.pow_lt_pow_iff_right (by decide)).1 h4
    omega
  have hb := bl_bounds (odd n) (odd_pos h0)
  have hle := odd_le n
  have hbl : bl (odd n) ≤ 64 := bl_le (by omega)
  refine Ev.bind0 (a := (twos n : Int)) (by unfold bits_TrailingZeros64.f; rw [if_pos ⟨by omega, by omega⟩, Int.toNat_natCast, ctz_eq h0 hn]) ?_
  refine Ev.yes (by omega) ?_
  rw [shr_ev n hn]
  refine Ev.bind0 (a := (bl (odd n) : Int)) (by unfold bits_Len64.f; rw [if_pos ⟨by omega, by omega⟩, Int.toNat_natCast, bitLen_eq (by omega)]) ?_
  rw [w64 (x := e + (twos n : Int)) (by omega) (by omega), w64 (x := e + (twos n : Int) + (bl (odd n) : Int)) (by omega) (by omega), w64 (x := e + (twos n : Int) + (bl (odd n) : Int) - 1) (by omega) (by omega)]
  by_cases c1 : 53 < bl (odd n)
  · refine Ev.yes (by omega) ?_
    rw [exactS_no h0 (.inl c1)]
    exact ex_j5_no _ _ _ _
  · refine Ev.no (by omega) ?_
    by_cases c2 : 1023 < e + twos n + bl (odd n) - 1
    · refine Ev.yes c2 ?_
      rw [exactS_no h0 (.inr (.inl c2))]
      exact ex_j5_no _ _ _ _
    · refine Ev.no c2 ?_
      by_cases c3 : e + twos n < -1074
      · rw [exactS_no h0 (.inr (.inr c3)), decide_eq_true c3]
        exact ex_j5_no _ _ _ _
      · rw [decide_eq_false c3]
        have hx : exactS n e = if e + twos n + bl (odd n) - 1 < -1022 then some (odd n * 2 ^ (e + twos n + 1074).toNat)
          else some ((e + twos n + bl (odd n) - 1 + 1023).toNat * 4503599627370496 + (odd n * 2 ^ (53 - bl (odd n))) % 4503599627370496) := by
          unfold exactS; rw [if_neg (by omega), if_neg (by omega)]
        rw [hx]
        refine Ev.step (fun k => by rw [numtext_exact.j5]) ?_
        refine Ev.no (by simp) ?_
        by_cases c4 : e + twos n + bl (odd n) - 1 < -1022
        · simp only [if_pos c4]
          rw [w64 (x := e + (twos n : Int) + 1074) (by omega) (by omega)]
          refine Ev.yes (by omega) (Ev.ret ?_)
          obtain ⟨q, hq⟩ := Int.eq_ofNat_of_zero_le (show 0 ≤ e + (twos n : Int) + 1074 by omega)
          rw [hq, Int.toNat_natCast, shl_ev _ _ (by omega) ?_]
          · rfl
          · have h1 : odd n * 2 ^ q < 2 ^ bl (odd n) * 2 ^ q := Nat.mul_lt_mul_of_pos_right hb.2.2 (Nat.two_pow_pos _)
            rw [← Nat.pow_add] at h1
            have h2 := Nat.pow_le_pow_right (n := 2) (by decide) (show bl (odd n) + q ≤ 52 by omega)
            omega
        · simp only [if_neg c4]
          rw [w64 (x := 53 - (bl (odd n) : Int)) (by omega) (by omega), w64 (x := e + (twos n : Int) + (bl (odd n) : Int) - 1 + 1023) (by omega) (by omega)]
          refine Ev.yes (by omega) (Ev.ret ?_)
          obtain ⟨q, hq⟩ := Int.eq_ofNat_of_zero_le (show 0 ≤ e + (twos n : Int) + (bl (odd n) : Int) - 1 + 1023 by omega)
          have hm : odd n * 2 ^ (53 - bl (odd n)) < 18446744073709551616 := by
            have h1 : odd n * 2 ^ (53 - bl (odd n)) < 2 ^ bl (odd n) * 2 ^ (53 - bl (odd n)) := Nat.mul_lt_mul_of_pos_right hb.2.2 (Nat.two_pow_pos _)
            rw [← Nat.pow_add] at h1
            have h2 := Nat.pow_le_pow_right (n := 2) (by decide) (show bl (odd n) + (53 - bl (odd n)) ≤ 53 by omega)
            omega
          rw [show (53 : Int) - (bl (odd n) : Int) = ((53 - bl (odd n) : Nat) : Int) by omega, shl_ev _ _ (by omega) hm, u64_and52 _ hm, hq, Int.toNat_natCast, wu64 (x := (q : Int)) (by omega) (by omega), wu64 (x := (q : Int) * 4503599627370496) (by omega) (by omega), u64_or52 _ _ (by omega) (Nat.mod_lt _ (by decide))]
          rfl
theorem ex_loop (l : List Nat) (e : Int) (hl : l.length ≤ 14) (hd : ∀ d ∈ l, d < 16) (hp : 0 < val 16 0 l) (he : -1000000 ≤ e ∧ e ≤ 1000000) :
    ∀ (r p : List Nat), l = p ++ r → Ev (fun k => numtext_exact.l2 k e (val 16 0 p : Int) (ints l) (l.length : Int) (p.length : Int)) (resE (exactS (val 16 0 l) e)) := by
  have hv : val 16 0 l < 18446744073709551616 := by
    have h1 := val_lt (b := 16) l 0 hd
    have h2 := Nat.pow_le_pow_right (n := 16) (by decide) hl
    omega
  intro r
  induction r with
  | nil =>
    intro p h
    rw [List.append_nil] at h
    subst h
    exact ex_end _ e _ 0 hp hv he _ (ints_len _)
  | cons d r ih =>
    intro p h
    have hlen : l.length = p.length + r.length + 1 := by rw [h]; simp; omega
    refine Ev.step (fun k => by rw [numtext_exact.l2]) ?_
    refine Ev.yes (by omega) (Ev.yes (by omega) (Ev.yes (by rw [ints_len]; omega) ?_))
    have hdd : d < 16 := hd d (by rw [h]; simp)
    have hpv : val 16 0 p < 16 ^ p.length := by
      have h1 := val_lt (b := 16) p 0 (fun x hx => hd x (by rw [h]; simp [hx]))
      omega
    have hpl := Nat.pow_le_pow_right (n := 16) (by decide) (show p.length ≤ 13 by omega)
    have e1 : rd (ints l) (p.length : Int) = (d : Int) := by rw [rd_ints, h]; simp [List.getD_eq_getElem?_getD]
    rw [e1, wu64 (x := (val 16 0 p : Int) * 16) (by omega) (by omega), u64_or16 _ _ (by omega) hdd, w64 (by omega) (by omega)]
    have h2 := ih (p ++ [d]) (by rw [h]; simp)
    rw [val_append, show val 16 (val 16 0 p) [d] = val 16 0 p * 16 + d from rfl] at h2
    rw [show ((p ++ [d]).length : Int) = (p.length : Int) + 1 by simp] at h2
    exact h2
theorem val_pos {l : List Nat} {d : Nat} (b : Nat) (hb : 0 < b) (h : 0 < d) : 0 < val b 0 (d :: l) := by
  have h1 := val_ge hb l (0 * b + d)
  have h2 : 0 < (0 * b + d) * b ^ l.length := Nat.mul_pos (by omega) (Nat.pow_pos hb)
  exact Nat.lt_of_lt_of_le h2 h1
theorem ex_long (l : List Nat) (e : Int) (hd : ∀ d ∈ l, d < 16) (hl : 15 ≤ l.length) (h1 : 0 < l.headD 0) (h2 : 0 < l.getLastD 0) : exactS (val 16 0 l) e = none := by
  obtain ⟨c, r, rfl⟩ : ∃ c r, l = c :: r := by
    cases l with
    | nil => simp at hl
    | cons c r => exact ⟨c, r, rfl⟩
  have hc : 0 < c := h1
  have hge : 16 ^ 14 ≤ val 16 0 (c :: r) := by
    have a := val_ge (b := 16) (by decide) r (0 * 16 + c)
    have b : 16 ^ 14 ≤ 16 ^ r.length := Nat.pow_le_pow_right (by decide) (by simp at hl; omega)
    have d : 16 ^ r.length ≤ (0 * 16 + c) * 16 ^ r.length := Nat.le_mul_of_pos_left _ (by omega)
    exact Nat.le_trans b (Nat.le_trans d a)
  rcases List.eq_nil_or_concat (c :: r) with h | ⟨m, d, h⟩
  · cases h
  · have hdl : d < 16 := hd d (by rw [h]; simp)
    have hd0 : 0 < d := by rw [h] at h2; simpa [List.getLastD_eq_getLast?] using h2
    have hv : val 16 0 (c :: r) = val 16 0 m * 16 + d := by rw [h, List.concat_eq_append, val_append]; rfl
    generalize val 16 0 (c :: r) = n at *
    generalize val 16 0 m = q at *
    have hn : 0 < n := by omega
    refine exactS_no hn (.inl ?_)
    obtain ⟨s1, s2⟩ := split n hn
    have ht : twos n ≤ 3 := by
      apply Nat.le_of_lt_succ
      apply Nat.lt_of_not_le
      intro h4
      have h5 : 2 ^ 4 ∣ n := by
        have : 2 ^ 4 ∣ 2 ^ twos n := Nat.pow_dvd_pow 2 h4
        rw [s1]
        exact Nat.dvd_trans this (Nat.dvd_mul_left _ _)
      obtain ⟨x, hx⟩ := h5
      omega
    have hp : 2 ^ twos n ≤ 2 ^ 3 := Nat.pow_le_pow_right (by decide) ht
    have h6 : 2 ^ 53 ≤ odd n := by
      apply Nat.le_of_not_lt
      intro h7
      have h8 : odd n * 2 ^ twos n ≤ odd n * 2 ^ 3 := Nat.mul_le_mul_left _ hp
      have h9 : odd n * 2 ^ 3 < 2 ^ 53 * 2 ^ 3 := Nat.mul_lt_mul_of_pos_right h7 (by decide)
      omega
    exact bl_gt h6
theorem ex_j3 (l : List Nat) (e : Int) (hd : ∀ d ∈ l, d < 16) (hl : l.length ≤ 1000) (h1 : l ≠ [] → 0 < l.headD 0 ∧ 0 < l.getLastD 0) (he : -1000000 ≤ e ∧ e ≤ 1000000) :
    Ev (fun k => numtext_exact.j3 k (ints l) e) (resE (exactS (val 16 0 l) e)) := by
  refine Ev.step (fun k => by rw [numtext_exact.j3]) ?_
  rw [ints_len]
  cases l with
  | nil => exact Ev.yes (by simp) (Ev.ret (by simp [val, exactS, resE]))
  | cons c r =>
    obtain ⟨a, b⟩ := h1 (by simp)
    refine Ev.no (by simp; omega) ?_
    by_cases h14 : 14 < (c :: r).length
    · rw [ex_long (c :: r) e hd (by omega) a b]
      exact Ev.yes (by omega) (Ev.ret rfl)
    · refine Ev.no (by omega) ?_
      exact ex_loop (c :: r) e (by omega) hd (val_pos 16 (by decide) a) he (c :: r) [] rfl
theorem ex_l1 : ∀ (n : Nat) (l : List Nat) (e : Int), l.length = n → (∀ d ∈ l, d < 16) → l.length ≤ 1000 → (l ≠ [] → 0 < l.headD 0) → (-900000 ≤ e ∧ e + 4 * l.length ≤ 900000) →
    Ev (fun k => numtext_exact.l1 k (ints l) e) (resE (exactS (val 16 0 l) e)) := by
  intro n
  induction n with
  | zero =>
    intro l e hn hd hl h1 he
    have : l = [] := List.eq_nil_of_length_eq_zero hn
    subst this
    refine Ev.step (fun k => by rw [numtext_exact.l1]) ?_
    refine Ev.no (by simp [ints]) ?_
    exact ex_j3 [] e hd hl (fun h => absurd rfl h) (by omega)
  | succ n ih =>
    intro l e hn hd hl h1 he
    rcases List.eq_nil_or_concat l with h | ⟨m, d, h⟩
    · rw [h] at hn; cases hn
    · rw [List.concat_eq_append] at h
      subst h
      have hm : m.length = n := by simpa using hn
      refine Ev.step (fun k => by rw [numtext_exact.l1]) ?_
      rw [ints_len]
      have e1 : wrap64 (((m ++ [d]).length : Int) - 1) = (m.length : Int) := by rw [w64 (by simp <;> omega) (by simp <;> omega)]; simp
      rw [e1]
      refine Ev.yes (by simp <;> omega) (Ev.yes (by omega) (Ev.yes (by simp <;> omega) ?_))
      rw [rd_ints, getD_last]
      by_cases h0 : d = 0
      · subst h0
        refine Ev.yes rfl (Ev.yes (by simp; omega) ?_)
        rw [Int.toNat_natCast, take_last, w64 (by omega) (by simp at he; omega)]
        have hv : val 16 0 (m ++ [0]) = val 16 0 m * 16 := by rw [val_append]; rfl
        rw [hv, exactS_16]
        refine ih m (e + 4) hm (fun x hx => hd x (by simp [hx])) (by simp at hl; omega) (fun hne => ?_) (by simp at he; omega)
        cases m with
        | nil => exact absurd rfl hne
        | cons c r => exact h1 (by simp)
      · refine Ev.no (by omega) ?_
        exact ex_j3 (m ++ [d]) e hd hl (fun hne => ⟨h1 hne, by simp [List.getLastD_eq_getLast?]; omega⟩) (by simp at he ⊢; omega)
theorem ex_l0 : ∀ (l : List Nat) (e : Int), (∀ d ∈ l, d < 16) → l.length ≤ 1000 → (-900000 ≤ e ∧ e + 4 * l.length ≤ 900000) → Ev (fun k => numtext_exact.l0 k (ints l) e) (resE (exactS (val 16 0 l) e))
  | [], e, hd, hl, he => by
    refine Ev.step (fun k => by rw [numtext_exact.l0]) ?_
    refine Ev.no (by simp [ints]) ?_
    refine Ev.step (fun k => by rw [numtext_exact.j1]) ?_
    exact ex_l1 0 [] e rfl hd hl (fun h => absurd rfl h) he
  | d :: r, e, hd, hl, he => by
    refine Ev.step (fun k => by rw [numtext_exact.l0]) ?_
    rw [ints_len]
    refine Ev.yes (by simp <;> omega) (Ev.yes (by simp <;> omega) ?_)
    rw [show rd (ints (d :: r)) 0 = (d : Int) from rd_ints (d :: r) 0]
    by_cases h0 : d = 0
    · subst h0
      refine Ev.yes rfl (Ev.yes (by simp; omega) ?_)
      have hv : val 16 0 (0 :: r) = val 16 0 r := by show val 16 (0 * 16 + 0) r = _; rfl
      rw [hv]
      exact ex_l0 r e (fun x hx => hd x (by simp [hx])) (by simp at hl; omega) (by simp at he; omega)
    · refine Ev.no (by omega) ?_
      refine Ev.step (fun k => by rw [numtext_exact.j1]) ?_
      exact ex_l1 _ (d :: r) e rfl hd hl (fun _ => by show 0 < d; omega) he
theorem exact_ev (l : List Nat) (e : Int) (hd : ∀ d ∈ l, d < 16) (hl : l.length ≤ 1000) (he : -800000 ≤ e ∧ e ≤ 800000) : Ev (fun k => numtext_exact.f k (ints l) e) (resE (exactS (val 16 0 l) e)) :=
  ex_l0 l e hd hl (by omega)
end Go.Proofs.YtjolkombhdibcaaDoor.Sp
end
section
namespace Go.Proofs.YtjolkombhdibcaaDoor.Print
open Go.RowKit Go.Proofs.YtjolkombhdibcaaDoor.Given Go.Proofs.YtjolkombhdibcaaDoorW.PrintWords Go.Proofs.YtjolkombhdibcaaDoorW.PrintLast Go.Proofs.YtjolkombhdibcaaDoorW.PrintMore
attribute [local go_sem] max2_int min2_int max_two min_two max_three min_three max_four min_four
set_option linter.unusedVariables false
set_option linter.unusedSimpArgs false
mutual
def casketref4_exact.j1 : Nat → Int → List Int → Int → Option (Int × Int)
 | 0, _, _, _ => none
 | k + 1, x0, x1, x2 => casketref4_exact.l1 k x0 x1 x2
def casketref4_exact.j3 : Nat → Int → List Int → Int → Option (Int × Int)
 | 0, _, _, _ => none
 | k + 1, x0, x1, x2 => if (x1.length : Int) = 0 then (some (x0, 0)) else (if (x1.length : Int) > 53 then (casketref4_exact.j4 k x0 x1 x2 (wrap64 ((wrap64 (x2 + (x1.length : Int))) - 1)) true) else (if (wrap64 ((wrap64 (x2 + (x1.length : Int))) - 1)) > 1023 then (casketref4_exact.j4 k x0 x1 x2 (wrap64 ((wrap64 (x2 + (x1.length : Int))) - 1)) true) else (casketref4_exact.j4 k x0 x1 x2 (wrap64 ((wrap64 (x2 + (x1.length : Int))) - 1)) (decide (x2 < (-1074))))))
def casketref4_exact.j4 : Nat → Int → List Int → Int → Int → Bool → Option (Int × Int)
 | 0, _, _, _, _, _ => none
 | k + 1, x0, x1, x2, x8, x61 => if x61 = true then (some (0, 21)) else (casketref4_exact.l2 k x0 x1 x2 x8 0 0)
def casketref4_exact.l2 : Nat → Int → List Int → Int → Int → Int → Int → Option (Int × Int)
 | 0, _, _, _, _, _, _ => none
 | k + 1, x0, x1, x2, x8, x9, x10 => if x10 < (x1.length : Int) then (if 0 ≤ x10 then (casketref4_exact.l2 k x0 x1 x2 x8 (IntKind.u64.wrap ((IntKind.u64.wrap (2 * x9)) + (IntKind.u64.wrap (rd x1 x10)))) (wrap64 (x10 + 1))) else (none)) else (if (wrap64 (x8 - 52)) < (-1074) then (casketref4_exact.j6 k x0 x2 x8 x9 (-1074)) else (casketref4_exact.j6 k x0 x2 x8 x9 (wrap64 (x8 - 52))))
def casketref4_exact.j6 : Nat → Int → Int → Int → Int → Int → Option (Int × Int)
 | 0, _, _, _, _, _ => none
 | k + 1, x0, x2, x8, x9, x11 => casketref4_exact.l3 k x0 x2 x8 x9 x11
def casketref4_exact.l3 : Nat → Int → Int → Int → Int → Int → Option (Int × Int)
 | 0, _, _, _, _, _ => none
 | k + 1, x0, x2, x8, x9, x11 => if x2 > x11 then (casketref4_exact.l3 k x0 (wrap64 (x2 - 1)) x8 (IntKind.u64.wrap (2 * x9)) x11) else (if x8 < (-1022) then (some (IntKind.u64.wrap (x0 + x9), 0)) else (some (IntKind.u64.wrap ((IntKind.u64.wrap (x0 + (IntKind.u64.wrap ((IntKind.u64.wrap (wrap64 (x8 + 1023))) * 4503599627370496)))) + (IntKind.u64.wrap (x9 - 4503599627370496))), 0)))
def casketref4_exact.l1 : Nat → Int → List Int → Int → Option (Int × Int)
 | 0, _, _, _ => none
 | k + 1, x0, x1, x2 => if (x1.length : Int) > 0 then (if 0 ≤ (wrap64 ((x1.length : Int) - 1)) then (if (wrap64 ((x1.length : Int) - 1)) < (x1.length : Int) then (if (rd x1 (wrap64 ((x1.length : Int) - 1))) = 0 then (if (wrap64 ((x1.length : Int) - 1)) ≤ (x1.length : Int) then (casketref4_exact.l1 k x0 (x1.take ((wrap64 ((x1.length : Int) - 1)) : Int).toNat) (wrap64 (x2 + 1))) else (none)) else (casketref4_exact.j3 k x0 x1 x2)) else (none)) else (none)) else (casketref4_exact.j3 k x0 x1 x2)
def casketref4_exact.l0 : Nat → Int → List Int → Int → Option (Int × Int)
 | 0, _, _, _ => none
 | k + 1, x0, x1, x2 => if (x1.length : Int) > 0 then (if 0 < (x1.length : Int) then (if (rd x1 0) = 0 then (if 1 ≤ (x1.length : Int) then (casketref4_exact.l0 k x0 (x1.drop 1) x2) else (none)) else (casketref4_exact.j1 k x0 x1 x2)) else (none)) else (casketref4_exact.j1 k x0 x1 x2)
end
def casketref4_exact.f (k : Nat) (a0 : Int) (l1 : List Int) (a2 : Int) : Option (Int × Int) := casketref4_exact.l0 k a0 l1 a2
end Go.Proofs.YtjolkombhdibcaaDoor.Print
end
section
namespace Go.Proofs.YtjolkombhdibcaaDoor.Sp
open Go.RowKit Go.Proofs.YtjolkombhdibcaaDoorW.PrintWords Go.Proofs.YtjolkombhdibcaaDoorW.PrintMore Go.Proofs.YtjolkombhdibcaaDoor.Given Go.Proofs.YtjolkombhdibcaaDoor.Print
set_option linter.unusedVariables false
set_option linter.unusedSimpArgs false
def resR (s : Nat) : Option Nat → Int × Int
  | none => (0, 21)
  | some b => (((s + b : Nat) : Int), 0)
end Go.Proofs.YtjolkombhdibcaaDoor.Sp
end
section
namespace Go.Proofs.YtjolkombhdibcaaDoor.Print
open Go.RowKit Go.Proofs.YtjolkombhdibcaaDoor.Given Go.Proofs.YtjolkombhdibcaaDoorW.PrintWords Go.Proofs.YtjolkombhdibcaaDoorW.PrintLast Go.Proofs.YtjolkombhdibcaaDoorW.PrintMore
attribute [local go_sem] max2_int min2_int max_two min_two max_three min_three max_four min_four
set_option linter.unusedVariables false
set_option linter.unusedSimpArgs false
theorem x39_11 {p : Prop} (h : p := by first | rfl | (simp; done) | (simp [*]; done)) : p := h
theorem x39_10 {p : Prop} (h : p := by first | (with_reducible assumption) | assumption) : p := h
theorem x39_9 {p : Prop} (h : p := by have := HJ8.out; first | omega | exact Nat.le_refl _) : p := h
theorem x39_8 {p : Prop} (h : p := by have := HJ8.out; have := HJ13.out; first | omega | exact Nat.le_refl _) : p := h
theorem x39_7 {p : Prop} (h : p := by first | rfl | (simp [errW_none, errW_some] <;> rfl) | (simp [*, errW_none, errW_some] <;> rfl)) : p := h
theorem x39_6 {p : Prop} (h : p := by (with_reducible repeat (first | apply Kd.R_alloc | apply Kd.R_drewN | apply Kd.R_drew)); exact HO_6.out) : p := h
theorem x39_5 {p : Prop} (h : p := by (with_reducible repeat (first | apply Kd.R_alloc | apply Kd.R_drewN | apply Kd.R_drew)); exact HO129.out) : p := h
theorem x39_4 {p : Prop} (h : p := by (with_reducible repeat (first | apply Kd.R_alloc | apply Kd.R_drewN | apply Kd.R_drew)); exact HO123.out) : p := h
theorem x39_3 {p : Prop} (h : p := by (with_reducible repeat (first | apply Kd.R_alloc | apply Kd.R_drewN | apply Kd.R_drew)); exact Kd.R_mono HO_6.out (fun _ hk => hk.2)) : p := h
theorem x39_2 {p : Prop} (h : p := by repeat (first | (with_reducible first | exact HB.out | apply below_alloc | apply pw_below_drewN | apply below_drew1) | exact HB.out)) : p := h
theorem x39_1 {p : Prop} (h : p := by (try simp only [List.map_toArray, List.map_cons, List.map_nil]); first | done | rfl | (simp only [List.length_drop, List.length_take]; rfl)) : p := h
theorem x39_0 {p : Prop} (h : p := by first | exact Glob.at_ HG0.out x39_2 | exact Glob.at_ HG0.out (Below.refl _ _)) : p := h
mutual
def numtext_ParseFloat.j0 : Nat → ByteArray → Bool → Bool → List Int → Option (Int × Int)
 | 0, _, _, _, _ => none
 | k + 1, x0, x4, x5, x6 => (strings_CutPrefix.f x0 (⟨#[46]⟩ : ByteArray)).bind fun bt124 => (if bt124.2 = true then ((numtext_cut.f bt124.1).bind fun bt126 => (if x5 = true then (if x6.length + bt126.1.length < 17592186044416 then (numtext_ParseFloat.j1 k bt126.2 x4 (decide ((bt126.1.length : Int) > 0)) (x6 ++ bt126.1) (bt126.1.length : Int)) else (none)) else (if x6.length + bt126.1.length < 17592186044416 then (numtext_ParseFloat.j1 k bt126.2 x4 false (x6 ++ bt126.1) (bt126.1.length : Int)) else (none)))) else (numtext_ParseFloat.j1 k x0 x4 x5 x6 0))
def numtext_ParseFloat.j1 : Nat → ByteArray → Bool → Bool → List Int → Int → Option (Int × Int)
 | 0, _, _, _, _, _ => none
 | k + 1, x0, x4, x5, x6, x7 => (strings_CutPrefix.f x0 (⟨#[112]⟩ : ByteArray)).bind fun bt136 => (if x5 = true then (if bt136.2 = true then (if (bt136.1.size : Int) < 2 then (numtext_ParseFloat.j2 k bt136.1 x4 x6 x7 true) else (if (bt136.1.size : Int) > 6 then (numtext_ParseFloat.j2 k bt136.1 x4 x6 x7 true) else (if 0 < (bt136.1.size : Int) then (if (bt bt136.1 0) = 43 then (if 1 ≤ (bt136.1.size : Int) then ((numtext_digits.f (bt136.1.extract 1 bt136.1.size)).bind fun t138 => (numtext_ParseFloat.j2 k bt136.1 x4 x6 x7 (!t138))) else (none)) else (if (bt bt136.1 0) = 45 then (if 1 ≤ (bt136.1.size : Int) then ((numtext_digits.f (bt136.1.extract 1 bt136.1.size)).bind fun t139 => (numtext_ParseFloat.j2 k bt136.1 x4 x6 x7 (!t139))) else (none)) else (numtext_ParseFloat.j2 k bt136.1 x4 x6 x7 true))) else (none)))) else (numtext_ParseFloat.j2 k bt136.1 x4 x6 x7 true)) else (numtext_ParseFloat.j2 k bt136.1 x4 x6 x7 true))
def numtext_ParseFloat.j2 : Nat → ByteArray → Bool → List Int → Int → Bool → Option (Int × Int)
 | 0, _, _, _, _, _ => none
 | k + 1, x0, x4, x6, x7, x107 => if x107 = true then (some (0, 20)) else ((strconv_Atoi_29.f x0).bind fun bt140 => ((numtext_exact.f k x6 (wrap64 (bt140.1 - (wrap64 (4 * x7))))).bind fun bt142 => (if bt142.2 = true then (if x4 = true then (some (Go.bits .or .u64 bt142.1 9223372036854775808, 0)) else (some (bt142.1, 0))) else (some (0, 21)))))
end
def numtext_ParseFloat.f (k : Nat) (a0 : ByteArray) : Option (Int × Int) := if (a0.size : Int) > 64 then (some (0, 2)) else (if a0.toList = ([110, 97, 110] : List UInt8) then (some (9221120237041090560, 0)) else (if a0.toList = ([105, 110, 102] : List UInt8) then (some (9218868437227405312, 0)) else (if a0.toList = ([45, 105, 110, 102] : List UInt8) then (some (18442240474082181120, 0)) else ((strings_CutPrefix.f a0 (⟨#[45]⟩ : ByteArray)).bind fun bt116 => ((strings_CutPrefix.f bt116.1 (⟨#[48, 120]⟩ : ByteArray)).bind fun bt118 => ((numtext_cut.f bt118.1).bind fun bt120 => (if bt118.2 = true then (numtext_ParseFloat.j0 k bt120.2 bt116.2 (decide ((bt120.1.length : Int) > 0)) bt120.1) else (numtext_ParseFloat.j0 k bt120.2 bt116.2 false bt120.1))))))))
set_option maxHeartbeats 8000000 in
set_option maxRecDepth 100000 in
theorem numtext_ParseFloat.calls (k : Nat) (a0 : ByteArray) (r1 : Int) (r2 : Int) (w : World) (hG : Glob w) (h : numtext_ParseFloat.f k a0 = some (r1, r2)) :
  Calls Tryd.prog 14 #[.string a0] w fun e w' => e = .returned (.tuple #[.int .u64 r1, .int .i64 r2]) ∧ Below w.heap.size w w' := by
 have HG0 := Aside0.mk hG
 clear hG
 have HB := Aside0.mk (Below.refl w.heap.size w)
 have H : (if (a0.size : Int) > 64 then (some (0, 2)) else (if a0.toList = ([110, 97, 110] : List UInt8) then (some (9221120237041090560, 0)) else (if a0.toList = ([105, 110, 102] : List UInt8) then (some (9218868437227405312, 0)) else (if a0.toList = ([45, 105, 110, 102] : List UInt8) then (some (18442240474082181120, 0)) else ((strings_CutPrefix.f a0 (⟨#[45]⟩ : ByteArray)).bind fun bt116 => ((strings_CutPrefix.f bt116.1 (⟨#[48, 120]⟩ : ByteArray)).bind fun bt118 => ((numtext_cut.f bt118.1).bind fun bt120 => (if bt118.2 = true then (numtext_ParseFloat.j0 k bt120.2 bt116.2 (decide ((bt120.1.length : Int) > 0)) bt120.1) else (numtext_ParseFloat.j0 k bt120.2 bt116.2 false bt120.1))))))))) = some (r1, r2) := h
 clear h
 by_cases c2 : (a0.size : Int) > 64
 ·rw [if_pos c2] at H
  have c2b0 : decide (64 < (a0.size : Int)) = true := decide_eq_true c2
  have c2b1 : decide (64 < a0.size) = true := decide_eq_true (by omega)
  clear c2
  simp only [Option.some.injEq, Prod.mk.injEq] at H
  obtain ⟨rfl, rfl⟩ := H
  go_enter Tryd.func14, Tryd.ntmps14
  go_wp2
  go_ret2
  exact ⟨x39_7, x39_2⟩
 ·rw [if_neg c2] at H
  have c2b0 : decide (64 < (a0.size : Int)) = false := decide_eq_false c2
  have c2b1 : decide (64 < a0.size) = false := decide_eq_false (by omega)
  clear c2
  by_cases c3 : a0.toList = ([110, 97, 110] : List UInt8)
  ·rw [if_pos c3] at H
   have c3b0 := beq_iff_eq.mpr c3
   have c3b1 := bne_eq_false_iff_eq.mpr c3
   clear c3
   simp only [Option.some.injEq, Prod.mk.injEq] at H
   obtain ⟨rfl, rfl⟩ := H
   go_enter Tryd.func14, Tryd.ntmps14
   go_wp2
   go_ret2
   exact ⟨x39_7, x39_2⟩
  ·rw [if_neg c3] at H
   have c3b0 := beq_eq_false_iff_ne.mpr c3
   have c3b1 := bne_iff_ne.mpr c3
   by_cases c4 : a0.toList = ([105, 110, 102] : List UInt8)
   ·rw [if_pos c4] at H
    have c4b0 := beq_iff_eq.mpr c4
    have c4b1 := bne_eq_false_iff_eq.mpr c4
    clear c4
    simp only [Option.some.injEq, Prod.mk.injEq] at H
    obtain ⟨rfl, rfl⟩ := H
    go_enter Tryd.func14, Tryd.ntmps14
    go_wp2
    go_ret2
    exact ⟨x39_7, x39_2⟩
   ·rw [if_neg c4] at H
    have c4b0 := beq_eq_false_iff_ne.mpr c4
    have c4b1 := bne_iff_ne.mpr c4
    by_cases c5 : a0.toList = ([45, 105, 110, 102] : List UInt8)
    ·rw [if_pos c5] at H
     have c5b0 := beq_iff_eq.mpr c5
     have c5b1 := bne_eq_false_iff_eq.mpr c5
     clear c5
     simp only [Option.some.injEq, Prod.mk.injEq] at H
     obtain ⟨rfl, rfl⟩ := H
     go_enter Tryd.func14, Tryd.ntmps14
     go_wp2
     go_ret2
     exact ⟨x39_7, x39_2⟩
    ·rw [if_neg c5] at H
     have c5b0 := beq_eq_false_iff_ne.mpr c5
     have c5b1 := bne_iff_ne.mpr c5
     replace H := Option.bind_eq_some_iff.mp H
     obtain ⟨⟨t116, t117⟩, A60, H⟩ := H
     replace H : ((strings_CutPrefix.f t116 (⟨#[48, 120]⟩ : ByteArray)).bind fun bt118 => ((numtext_cut.f bt118.1).bind fun bt120 => (if bt118.2 = true then (numtext_ParseFloat.j0 k bt120.2 t117 (decide ((bt120.1.length : Int) > 0)) bt120.1) else (numtext_ParseFloat.j0 k bt120.2 t117 false bt120.1)))) = some (r1, r2) := H
     have A6 := Aside0.mk A60
     clear A60
     replace H := Option.bind_eq_some_iff.mp H
     obtain ⟨⟨t118, t119⟩, A70, H⟩ := H
     replace H : ((numtext_cut.f t118).bind fun bt120 => (if t119 = true then (numtext_ParseFloat.j0 k bt120.2 t117 (decide ((bt120.1.length : Int) > 0)) bt120.1) else (numtext_ParseFloat.j0 k bt120.2 t117 false bt120.1))) = some (r1, r2) := H
     have A7 := Aside0.mk A70
     clear A70
     replace H := Option.bind_eq_some_iff.mp H
     obtain ⟨⟨t120, t121⟩, A80, H⟩ := H
     replace H : (if t119 = true then (numtext_ParseFloat.j0 k t121 t117 (decide ((t120.length : Int) > 0)) t120) else (numtext_ParseFloat.j0 k t121 t117 false t120)) = some (r1, r2) := H
     have A8 := Aside0.mk A80
     clear A80
     have HC9 := Aside0.mk H
     clear H
     go_enter Tryd.func14, Tryd.ntmps14
     go_upto_region 12 with (first | ((with_reducible refine gate_callee (f := 23) rfl ?_); refine goesL_ (some 30) rfl rfl Tryd.func23 (by kernel_rfl) rfl #[.string a0, .string (⟨#[45]⟩ : ByteArray)] rfl x39_1 ?_; (with_reducible refine (strings_CutPrefix.calls a0 (⟨#[45]⟩ : ByteArray) t116 t117 _ A6.out).mono ?_); rintro e w' ⟨rfl, ⟨nd, rfl⟩⟩; refine ⟨_, rfl, ?_⟩) | ((with_reducible refine gate_callee (f := 23) rfl ?_); refine goesL_ (some 35) rfl rfl Tryd.func23 (by kernel_rfl) rfl #[.string t116, .string (⟨#[48, 120]⟩ : ByteArray)] rfl x39_1 ?_; (with_reducible refine (strings_CutPrefix.calls t116 (⟨#[48, 120]⟩ : ByteArray) t118 t119 _ A7.out).mono ?_); rintro e w' ⟨rfl, ⟨nd, rfl⟩⟩; refine ⟨_, rfl, ?_⟩) | ((with_reducible refine gate_callee (f := 24) rfl ?_); refine goesL_ (some 40) rfl rfl Tryd.func24 (by kernel_rfl) rfl #[.string t118] rfl x39_1 ?_; (with_reducible refine (numtext_cut.calls t118 t120 t121 _ A8.out).mono ?_); rintro e w10 ⟨v122, rfl, ho0, hb⟩; refine ⟨_, rfl, ?_⟩; have n0_ := Aside0.mk (Kd.R_lower ho0 (below_size x39_2)); have n1_ := Aside0.mk (below_step x39_2 hb); clear HB; have HO123 := n0_; have HB := n1_; clear n0_ n1_))
     (try simp only [Act.put, List.setIfInBounds_toArray, List.set_cons_zero, List.set_cons_succ])
     go_cut [5] (fun v5 wc => ∃ (kq : Nat) (x5_8 : Bool), v5 = .bool x5_8 ∧ Aside0 (numtext_ParseFloat.j0 kq t121 t117 x5_8 t120 = some (r1, r2)) ∧ Aside0 (kq ≤ k) ∧ Aside0 (Kd.R (Kd.int .u64) 28 wc w.heap.size (fun _ => True) v122 t120) ∧ Aside0 (Below w.heap.size w wc))
     case first =>
      have H := HC9.out
      clear HC9
      by_cases c11 : t119 = true
      ·subst c11
       rw [if_pos rfl] at H
       have H' := Aside0.mk H
       clear H
       obtain ⟨Ao12, co12, eo12⟩ := Kd.R_slice HO123.out
       subst eo12
       go_wp2
       go_meet
       case rel => exact ⟨_, (decide ((t120.length : Int) > 0)), x39_11, H', ⟨by first | omega | exact Nat.le_refl _⟩, ⟨x39_4⟩, ⟨x39_2⟩⟩
      ·replace c11 := Bool.eq_false_iff.mpr c11
       subst c11
       rw [if_neg (show ¬ (false = true) by decide)] at H
       have H' := Aside0.mk H
       clear H
       go_wp2
       go_meet
       case rel => exact ⟨_, (false), x39_11, H', ⟨by first | omega | exact Nat.le_refl _⟩, ⟨x39_4⟩, ⟨x39_2⟩⟩
     case rest =>
      clear HC9
      obtain ⟨kq, x5_8, rfl, HA, HJ8, HO_6, HB⟩ := hcut
      cases kq with
      | zero => exact absurd HA.out (by simp [numtext_ParseFloat.j0])
      | succ kj8 =>
       have H := HA.out
       clear HA
       simp only [numtext_ParseFloat.j0] at H
       replace H := Option.bind_eq_some_iff.mp H
       obtain ⟨⟨t124, t125⟩, A130, H⟩ := H
       replace H : (if t125 = true then ((numtext_cut.f t124).bind fun bt126 => (if x5_8 = true then (if t120.length + bt126.1.length < 17592186044416 then (numtext_ParseFloat.j1 kj8 bt126.2 t117 (decide ((bt126.1.length : Int) > 0)) (t120 ++ bt126.1) (bt126.1.length : Int)) else (none)) else (if t120.length + bt126.1.length < 17592186044416 then (numtext_ParseFloat.j1 kj8 bt126.2 t117 false (t120 ++ bt126.1) (bt126.1.length : Int)) else (none)))) else (numtext_ParseFloat.j1 kj8 t121 t117 x5_8 t120 0)) = some (r1, r2) := H
       have A13 := Aside0.mk A130
       clear A130
       have HC14 := Aside0.mk H
       clear H
       go_upto_if 54 with (first | ((with_reducible refine gate_callee (f := 23) rfl ?_); refine goesL_ (some 51) rfl rfl Tryd.func23 (by kernel_rfl) rfl #[.string t121, .string (⟨#[46]⟩ : ByteArray)] rfl x39_1 ?_; (with_reducible refine (strings_CutPrefix.calls t121 (⟨#[46]⟩ : ByteArray) t124 t125 _ A13.out).mono ?_); rintro e w' ⟨rfl, ⟨nd, rfl⟩⟩; refine ⟨_, rfl, ?_⟩))
       (try simp only [Act.put, List.setIfInBounds_toArray, List.set_cons_zero, List.set_cons_succ])
       go_cut [0, 5, 6, 7] (fun v0 v5 v6 v7 wc => ∃ (kq : Nat) (x0_13 : ByteArray) (x5_13 : Bool) (x6_13 : List Int) (x7_13 : Int), v0 = .string x0_13 ∧ v5 = .bool x5_13 ∧ v7 = .int .i64 x7_13 ∧ Aside0 (numtext_ParseFloat.j1 kq x0_13 t117 x5_13 x6_13 x7_13 = some (r1, r2)) ∧ Aside0 (kq ≤ kj8) ∧ Aside0 (Kd.R (Kd.int .u64) 28 wc w.heap.size (fun _ => True) v6 x6_13) ∧ Aside0 (Below w.heap.size w wc))
       case first =>
        have H := HC14.out
        clear HC14
        by_cases c15 : t125 = true
        ·subst c15
         rw [if_pos rfl] at H
         replace H := Option.bind_eq_some_iff.mp H
         obtain ⟨⟨t126, t127⟩, A160, H⟩ := H
         replace H : (if x5_8 = true then (if t120.length + t126.length < 17592186044416 then (numtext_ParseFloat.j1 kj8 t127 t117 (decide ((t126.length : Int) > 0)) (t120 ++ t126) (t126.length : Int)) else (none)) else (if t120.length + t126.length < 17592186044416 then (numtext_ParseFloat.j1 kj8 t127 t117 false (t120 ++ t126) (t126.length : Int)) else (none))) = some (r1, r2) := H
         have A16 := Aside0.mk A160
         clear A160
         by_cases c17 : x5_8 = true
         ·subst c17
          rw [if_pos rfl] at H
          by_cases c18 : t120.length + t126.length < 17592186044416
          ·rw [if_pos c18] at H
           have LMc18 := Aside0.mk c18
           clear c18
           obtain ⟨y130, hy130⟩ : ∃ y_ : List Int, y_ = (t120 ++ t126) := ⟨_, rfl⟩
           replace H : (numtext_ParseFloat.j1 kj8 t127 t117 (decide ((t126.length : Int) > 0)) y130 (t126.length : Int)) = some (r1, r2) := by first | (rw [hy130]; with_reducible exact H) | (have H2_ := (Option.bind_some _ _).symm.trans H; rw [hy130]; with_reducible exact H2_) | (have H2_ := (Option.bind_some _ _).symm.trans H; with_reducible exact H2_) | with_reducible exact H | (rw [hy130]; exact H) | exact H
           have Ny130 := Aside0.mk hy130
           clear hy130
           have H' := Aside0.mk H
           clear H
           go_wp2_with (first | ((with_reducible refine gate_callee (f := 24) rfl ?_); refine goesL_ (some 57) rfl rfl Tryd.func24 (by kernel_rfl) rfl #[.string t124] rfl x39_1 ?_; (with_reducible refine (numtext_cut.calls t124 t126 t127 _ A16.out).mono ?_); rintro e w19 ⟨v128, rfl, ho0, hb⟩; refine ⟨_, rfl, ?_⟩; have n0_ := Aside0.mk (Kd.R_elder' x39_6 (Kd.R_base ho0) hb); have n1_ := Aside0.mk (Kd.R_lower (Kd.R_new' ho0 (Kd.R_lt x39_6)) (below_size x39_2)); have n2_ := Aside0.mk (below_step x39_2 hb); clear HO_6; clear HB; have HO_6 := n0_; have HO129 := n1_; have HB := n2_; clear n0_ n1_ n2_; obtain ⟨Ao20, co20, eo20⟩ := Kd.R_slice HO129.out; subst eo20) | ((with_reducible refine gate_builtin (b := .append) (xs := #[.tmp 66, .tmp 67]) rfl ?_); (try (refine gate_guard (by rfl) ?_; dsimp only)); at_builtin; refine Kd.R_append_rows (Kd.int .u64) (w0 := w) w.heap.size rfl (.tmp 66) (.tmp 67) 59 28 (.int .u64 0) 8 rfl Tryd.underlying59 info28 rfl (by decide) (by omega) v122 t120 t126 _ _ _ (fun k_ => some k_ ≠ (.slice Ao20 t126.length co20 : Value).ownBlock) (fun _ => False) rfl rfl ?aO ?aR (fun _ _ h => h) (fun _ h => h.elim) ?aF ?aB ?aS ?aL ?_; (case aR => repeat (first | exact (Kd.R_reads' HO129.out).2.2 | (with_reducible refine Kd.C_alloc ?_ _) | (with_reducible refine Kd.C_drewN ?_ _) | (with_reducible refine Kd.C_drew ?_))); (case aB => exact x39_2); (case aF => exact (fun k_ hk => Kd.fresh' (Kd.R_lt x39_5) k_ hk)); (case aO => exact x39_3); (case aS => exact (below_size x39_2)); (case aL => have := LMc18.out; omega); intro v131 w21 ho hb hg hat; rw [← Ny130.out] at ho; have n0_ := Aside0.mk (Kd.R_after (ok := (fun _ => True)) x39_5 hg hat); have n1_ := Aside0.mk (hb); have n2_ := Aside0.mk (ho); clear HO129; clear HB; clear HO_6; have HO129 := n0_; have HB := n1_; have HO132 := n2_; clear n0_ n1_ n2_; clear ho hb hg hat))
           go_meet
           case rel => exact ⟨_, (t127), (decide ((t126.length : Int) > 0)), (y130), ((t126.length : Int)), x39_11, x39_11, x39_11, H', ⟨x39_9⟩, ⟨by (with_reducible repeat (first | apply Kd.R_alloc | apply Kd.R_drewN | apply Kd.R_drew)); exact Kd.R_mono HO132.out (fun _ hk => trivial)⟩, ⟨x39_2⟩⟩
          ·rw [if_neg c18] at H
           exact absurd H (by simp)
         ·replace c17 := Bool.eq_false_iff.mpr c17
          subst c17
          rw [if_neg (show ¬ (false = true) by decide)] at H
          by_cases c22 : t120.length + t126.length < 17592186044416
          ·rw [if_pos c22] at H
           have LMc22 := Aside0.mk c22
           clear c22
           obtain ⟨y133, hy133⟩ : ∃ y_ : List Int, y_ = (t120 ++ t126) := ⟨_, rfl⟩
           replace H : (numtext_ParseFloat.j1 kj8 t127 t117 false y133 (t126.length : Int)) = some (r1, r2) := by first | (rw [hy133]; with_reducible exact H) | (have H2_ := (Option.bind_some _ _).symm.trans H; rw [hy133]; with_reducible exact H2_) | (have H2_ := (Option.bind_some _ _).symm.trans H; with_reducible exact H2_) | with_reducible exact H | (rw [hy133]; exact H) | exact H
           have Ny133 := Aside0.mk hy133
           clear hy133
           have H' := Aside0.mk H
           clear H
           go_wp2_with (first | ((with_reducible refine gate_callee (f := 24) rfl ?_); refine goesL_ (some 57) rfl rfl Tryd.func24 (by kernel_rfl) rfl #[.string t124] rfl x39_1 ?_; (with_reducible refine (numtext_cut.calls t124 t126 t127 _ A16.out).mono ?_); rintro e w23 ⟨v128, rfl, ho0, hb⟩; refine ⟨_, rfl, ?_⟩; have n0_ := Aside0.mk (Kd.R_elder' x39_6 (Kd.R_base ho0) hb); have n1_ := Aside0.mk (Kd.R_lower (Kd.R_new' ho0 (Kd.R_lt x39_6)) (below_size x39_2)); have n2_ := Aside0.mk (below_step x39_2 hb); clear HO_6; clear HB; have HO_6 := n0_; have HO129 := n1_; have HB := n2_; clear n0_ n1_ n2_; obtain ⟨Ao25, co25, eo25⟩ := Kd.R_slice HO129.out; subst eo25) | ((with_reducible refine gate_builtin (b := .append) (xs := #[.tmp 66, .tmp 67]) rfl ?_); (try (refine gate_guard (by rfl) ?_; dsimp only)); at_builtin; refine Kd.R_append_rows (Kd.int .u64) (w0 := w) w.heap.size rfl (.tmp 66) (.tmp 67) 59 28 (.int .u64 0) 8 rfl Tryd.underlying59 info28 rfl (by decide) (by omega) v122 t120 t126 _ _ _ (fun k_ => some k_ ≠ (.slice Ao25 t126.length co25 : Value).ownBlock) (fun _ => False) rfl rfl ?aO ?aR (fun _ _ h => h) (fun _ h => h.elim) ?aF ?aB ?aS ?aL ?_; (case aR => repeat (first | exact (Kd.R_reads' HO129.out).2.2 | (with_reducible refine Kd.C_alloc ?_ _) | (with_reducible refine Kd.C_drewN ?_ _) | (with_reducible refine Kd.C_drew ?_))); (case aB => exact x39_2); (case aF => exact (fun k_ hk => Kd.fresh' (Kd.R_lt x39_5) k_ hk)); (case aO => exact x39_3); (case aS => exact (below_size x39_2)); (case aL => have := LMc22.out; omega); intro v134 w24 ho hb hg hat; rw [← Ny133.out] at ho; have n0_ := Aside0.mk (Kd.R_after (ok := (fun _ => True)) x39_5 hg hat); have n1_ := Aside0.mk (hb); have n2_ := Aside0.mk (ho); clear HO129; clear HB; clear HO_6; have HO129 := n0_; have HB := n1_; have HO135 := n2_; clear n0_ n1_ n2_; clear ho hb hg hat))
           go_meet
           case rel => exact ⟨_, (t127), (false), (y133), ((t126.length : Int)), x39_11, x39_11, x39_11, H', ⟨x39_9⟩, ⟨by (with_reducible repeat (first | apply Kd.R_alloc | apply Kd.R_drewN | apply Kd.R_drew)); exact Kd.R_mono HO135.out (fun _ hk => trivial)⟩, ⟨x39_2⟩⟩
          ·rw [if_neg c22] at H
           exact absurd H (by simp)
        ·replace c15 := Bool.eq_false_iff.mpr c15
         subst c15
         rw [if_neg (show ¬ (false = true) by decide)] at H
         have H' := Aside0.mk H
         clear H
         go_wp2
         go_meet
         case rel => exact ⟨_, (t121), (x5_8), (t120), (0), x39_11, x39_11, x39_11, H', ⟨x39_9⟩, ⟨x39_6⟩, ⟨x39_2⟩⟩
       case rest =>
        clear HC14
        obtain ⟨kq, x0_13, x5_13, x6_13, x7_13, rfl, rfl, rfl, HA, HJ13, HO_6, HB⟩ := hcut
        cases kq with
        | zero => exact absurd HA.out (by simp [numtext_ParseFloat.j1])
        | succ kj13 =>
         have H := HA.out
         clear HA
         simp only [numtext_ParseFloat.j1] at H
         replace H := Option.bind_eq_some_iff.mp H
         obtain ⟨⟨t136, t137⟩, A260, H⟩ := H
         replace H : (if x5_13 = true then (if t137 = true then (if (t136.size : Int) < 2 then (numtext_ParseFloat.j2 kj13 t136 t117 x6_13 x7_13 true) else (if (t136.size : Int) > 6 then (numtext_ParseFloat.j2 kj13 t136 t117 x6_13 x7_13 true) else (if 0 < (t136.size : Int) then (if (bt t136 0) = 43 then (if 1 ≤ (t136.size : Int) then ((numtext_digits.f (t136.extract 1 t136.size)).bind fun t138 => (numtext_ParseFloat.j2 kj13 t136 t117 x6_13 x7_13 (!t138))) else (none)) else (if (bt t136 0) = 45 then (if 1 ≤ (t136.size : Int) then ((numtext_digits.f (t136.extract 1 t136.size)).bind fun t139 => (numtext_ParseFloat.j2 kj13 t136 t117 x6_13 x7_13 (!t139))) else (none)) else (numtext_ParseFloat.j2 kj13 t136 t117 x6_13 x7_13 true))) else (none)))) else (numtext_ParseFloat.j2 kj13 t136 t117 x6_13 x7_13 true)) else (numtext_ParseFloat.j2 kj13 t136 t117 x6_13 x7_13 true)) = some (r1, r2) := H
         have A26 := Aside0.mk A260
         clear A260
         have HC27 := Aside0.mk H
         clear H
         go_upto_region 22 with (first | ((with_reducible refine gate_callee (f := 23) rfl ?_); refine goesL_ (some 73) rfl rfl Tryd.func23 (by kernel_rfl) rfl #[.string x0_13, .string (⟨#[112]⟩ : ByteArray)] rfl x39_1 ?_; (with_reducible refine (strings_CutPrefix.calls x0_13 (⟨#[112]⟩ : ByteArray) t136 t137 _ A26.out).mono ?_); rintro e w' ⟨rfl, ⟨nd, rfl⟩⟩; refine ⟨_, rfl, ?_⟩))
         (try simp only [Act.put, List.setIfInBounds_toArray, List.set_cons_zero, List.set_cons_succ])
         go_cut [107] (fun v107 wc => ∃ (kq : Nat) (x107_26 : Bool), v107 = .bool x107_26 ∧ Aside0 (numtext_ParseFloat.j2 kq t136 t117 x6_13 x7_13 x107_26 = some (r1, r2)) ∧ Aside0 (kq ≤ kj13) ∧ Aside0 (Kd.R (Kd.int .u64) 28 wc w.heap.size (fun _ => True) u6 x6_13) ∧ Aside0 (Below w.heap.size w wc))
         case first =>
          have H := HC27.out
          clear HC27
          by_cases c28 : x5_13 = true
          ·subst c28
           rw [if_pos rfl] at H
           by_cases c29 : t137 = true
           ·subst c29
            rw [if_pos rfl] at H
            by_cases c30 : (t136.size : Int) < 2
            ·rw [if_pos c30] at H
             have c30b0 := decide_eq_true c30
             have c30b1 : decide (t136.size < 2) = true := decide_eq_true (by omega)
             clear c30
             (first | rw [c30b0] | (simp only [i64_w, i32_w]; rw [c30b0]) | skip)
             have H' := Aside0.mk H
             clear H
             go_wp2
             go_meet
             case rel => exact ⟨_, (true), x39_11, H', ⟨x39_8⟩, ⟨x39_6⟩, ⟨x39_2⟩⟩
            ·rw [if_neg c30] at H
             have c30b0 := decide_eq_false c30
             have c30b1 : decide (t136.size < 2) = false := decide_eq_false (by omega)
             clear c30
             (first | rw [c30b0] | (simp only [i64_w, i32_w]; rw [c30b0]) | skip)
             by_cases c31 : (t136.size : Int) > 6
             ·rw [if_pos c31] at H
              have c31b0 : decide (6 < (t136.size : Int)) = true := decide_eq_true c31
              have c31b1 : decide (6 < t136.size) = true := decide_eq_true (by omega)
              clear c31
              have H' := Aside0.mk H
              clear H
              go_wp2
              go_meet
              case rel => exact ⟨_, (true), x39_11, H', ⟨x39_8⟩, ⟨x39_6⟩, ⟨x39_2⟩⟩
             ·rw [if_neg c31] at H
              have c31b0 : decide (6 < (t136.size : Int)) = false := decide_eq_false c31
              have c31b1 : decide (6 < t136.size) = false := decide_eq_false (by omega)
              clear c31
              by_cases c32 : 0 < (t136.size : Int)
              ·rw [if_pos c32] at H
               have c32b0 := decide_eq_true c32
               have c32b1 : decide (0 < t136.size) = true := decide_eq_true (by omega)
               clear c32
               by_cases c34 : (bt t136 0) = 43
               ·rw [if_pos c34] at H
                have c34b0 := beq_iff_eq.mpr c34
                have c34b1 := bne_eq_false_iff_eq.mpr c34
                clear c34
                by_cases c35 : 1 ≤ (t136.size : Int)
                ·rw [if_pos c35] at H
                 have c35b0 := eq_true c35
                 have c35b1 := decide_eq_true c35
                 clear c35
                 obtain ⟨t138, A360, H⟩ := Option.bind_eq_some_iff.mp H
                 have A36 := Aside0.mk A360
                 clear A360
                 have H' := Aside0.mk H
                 clear H
                 have p33 : 0 ≤ (0 : Int) := (by omega)
                 have q33 : 0 < t136.size := (by have : (0 : Int) < (t136.size : Int) := of_decide_eq_true x39_10; omega)
                 have hx33 : ∀ h : 0 < t136.size, ((t136[0]'h).toNat : Int) = bt t136 0 := bt_at t136 0
                 clear p33
                 have qi33 : (0 < (t136.size : Int)) = True := eq_true (of_decide_eq_true x39_10)
                 replace q33 := eq_true q33
                 go_wp2_with (first | (go_at_call 25; (with_reducible refine (numtext_digits.calls (t136.extract 1 t136.size) t138 _ A36.out).mono ?_); rintro e w' ⟨rfl, ⟨nd, rfl⟩⟩))
                 go_meet
                 case rel => exact ⟨_, (!t138), x39_11, H', ⟨x39_8⟩, ⟨x39_6⟩, ⟨x39_2⟩⟩
                ·rw [if_neg c35] at H
                 exact absurd H (by simp)
               ·rw [if_neg c34] at H
                have c34b0 := beq_eq_false_iff_ne.mpr c34
                have c34b1 := bne_iff_ne.mpr c34
                by_cases c38 : (bt t136 0) = 45
                ·rw [if_pos c38] at H
                 have c38b0 := beq_iff_eq.mpr c38
                 have c38b1 := bne_eq_false_iff_eq.mpr c38
                 clear c38
                 by_cases c39 : 1 ≤ (t136.size : Int)
                 ·rw [if_pos c39] at H
                  have c39b0 := eq_true c39
                  have c39b1 := decide_eq_true c39
                  clear c39
                  obtain ⟨t139, A400, H⟩ := Option.bind_eq_some_iff.mp H
                  have A40 := Aside0.mk A400
                  clear A400
                  have H' := Aside0.mk H
                  clear H
                  have p33 : 0 ≤ (0 : Int) := (by omega)
                  have q33 : 0 < t136.size := (by have : (0 : Int) < (t136.size : Int) := of_decide_eq_true x39_10; omega)
                  have hx33 : ∀ h : 0 < t136.size, ((t136[0]'h).toNat : Int) = bt t136 0 := bt_at t136 0
                  clear p33
                  have qi33 : (0 < (t136.size : Int)) = True := eq_true (of_decide_eq_true x39_10)
                  replace q33 := eq_true q33
                  have p37 : 0 ≤ (0 : Int) := (by omega)
                  have q37 : 0 < t136.size := (by have : (0 : Int) < (t136.size : Int) := of_decide_eq_true x39_10; omega)
                  have hx37 : ∀ h : 0 < t136.size, ((t136[0]'h).toNat : Int) = bt t136 0 := bt_at t136 0
                  clear p37
                  have qi37 : (0 < (t136.size : Int)) = True := eq_true (of_decide_eq_true x39_10)
                  replace q37 := eq_true q37
                  go_wp2_with (first | (go_at_call 25; (with_reducible refine (numtext_digits.calls (t136.extract 1 t136.size) t139 _ A40.out).mono ?_); rintro e w' ⟨rfl, ⟨nd, rfl⟩⟩))
                  go_meet
                  case rel => exact ⟨_, (!t139), x39_11, H', ⟨x39_8⟩, ⟨x39_6⟩, ⟨x39_2⟩⟩
                 ·rw [if_neg c39] at H
                  exact absurd H (by simp)
                ·rw [if_neg c38] at H
                 have c38b0 := beq_eq_false_iff_ne.mpr c38
                 have c38b1 := bne_iff_ne.mpr c38
                 have H' := Aside0.mk H
                 clear H
                 have p33 : 0 ≤ (0 : Int) := (by omega)
                 have q33 : 0 < t136.size := (by have : (0 : Int) < (t136.size : Int) := of_decide_eq_true x39_10; omega)
                 have hx33 : ∀ h : 0 < t136.size, ((t136[0]'h).toNat : Int) = bt t136 0 := bt_at t136 0
                 clear p33
                 have qi33 : (0 < (t136.size : Int)) = True := eq_true (of_decide_eq_true x39_10)
                 replace q33 := eq_true q33
                 have p37 : 0 ≤ (0 : Int) := (by omega)
                 have q37 : 0 < t136.size := (by have : (0 : Int) < (t136.size : Int) := of_decide_eq_true x39_10; omega)
                 have hx37 : ∀ h : 0 < t136.size, ((t136[0]'h).toNat : Int) = bt t136 0 := bt_at t136 0
                 clear p37
                 have qi37 : (0 < (t136.size : Int)) = True := eq_true (of_decide_eq_true x39_10)
                 replace q37 := eq_true q37
                 go_wp2
                 go_meet
                 case rel => exact ⟨_, (true), x39_11, H', ⟨x39_8⟩, ⟨x39_6⟩, ⟨x39_2⟩⟩
              ·rw [if_neg c32] at H
               exact absurd H (by simp)
           ·replace c29 := Bool.eq_false_iff.mpr c29
            subst c29
            rw [if_neg (show ¬ (false = true) by decide)] at H
            have H' := Aside0.mk H
            clear H
            go_wp2
            go_meet
            case rel => exact ⟨_, (true), x39_11, H', ⟨x39_8⟩, ⟨x39_6⟩, ⟨x39_2⟩⟩
          ·replace c28 := Bool.eq_false_iff.mpr c28
           subst c28
           rw [if_neg (show ¬ (false = true) by decide)] at H
           have H' := Aside0.mk H
           clear H
           go_wp2
           go_meet
           case rel => exact ⟨_, (true), x39_11, H', ⟨x39_8⟩, ⟨x39_6⟩, ⟨x39_2⟩⟩
         case rest =>
          clear HC27
          obtain ⟨kq, x107_26, rfl, HA, HJ26, HO_6, HB⟩ := hcut
          cases kq with
          | zero => exact absurd HA.out (by simp [numtext_ParseFloat.j2])
          | succ kj26 =>
           have H := HA.out
           clear HA
           simp only [numtext_ParseFloat.j2] at H
           by_cases c41 : x107_26 = true
           ·subst c41
            rw [if_pos rfl] at H
            simp only [Option.some.injEq, Prod.mk.injEq] at H
            obtain ⟨rfl, rfl⟩ := H
            go_wp2
            go_ret2
            exact ⟨x39_7, x39_2⟩
           ·replace c41 := Bool.eq_false_iff.mpr c41
            subst c41
            rw [if_neg (show ¬ (false = true) by decide)] at H
            replace H := Option.bind_eq_some_iff.mp H
            obtain ⟨⟨t140, t141⟩, A420, H⟩ := H
            replace H : ((numtext_exact.f kj26 x6_13 (wrap64 (t140 - (wrap64 (4 * x7_13))))).bind fun bt142 => (if bt142.2 = true then (if t117 = true then (some (Go.bits .or .u64 bt142.1 9223372036854775808, 0)) else (some (bt142.1, 0))) else (some (0, 21)))) = some (r1, r2) := H
            have A42 := Aside0.mk A420
            clear A420
            replace H := Option.bind_eq_some_iff.mp H
            obtain ⟨⟨t142, t143⟩, A430, H⟩ := H
            replace H : (if t143 = true then (if t117 = true then (some (Go.bits .or .u64 t142 9223372036854775808, 0)) else (some (t142, 0))) else (some (0, 21))) = some (r1, r2) := H
            have A43 := Aside0.mk A430
            clear A430
            by_cases c44 : t143 = true
            ·subst c44
             rw [if_pos rfl] at H
             by_cases c45 : t117 = true
             ·subst c45
              rw [if_pos rfl] at H
              simp only [Option.some.injEq, Prod.mk.injEq] at H
              obtain ⟨rfl, rfl⟩ := H
              go_wp2_with (first | ((with_reducible refine gate_callee (f := 26) rfl ?_); refine goesL_ (some 110) rfl rfl Tryd.func26 (by kernel_rfl) rfl #[.string t136] rfl x39_1 ?_; (with_reducible refine (strconv_Atoi_29.calls t136 t140 t141 _ A42.out).mono ?_); rintro e w46 ⟨rfl, hb⟩; refine ⟨_, rfl, ?_⟩; have n0_ := Aside0.mk (Kd.R_below x39_6 hb); have n1_ := Aside0.mk (below_step x39_2 hb); clear HO_6; clear HB; have HO_6 := n0_; have HB := n1_; clear n0_ n1_; (try simp only [errW_none, errW_some]); obtain ⟨Ao47, co47, eo47⟩ := Kd.R_slice HO_6.out; subst eo47) | ((with_reducible refine gate_callee (f := 27) rfl ?_); refine goesL_ (some 119) rfl rfl Tryd.func27 (by kernel_rfl) rfl #[.slice Ao47 x6_13.length co47, .int .i64 (wrap64 (t140 - (wrap64 (4 * x7_13))))] rfl x39_1 ?_; (with_reducible refine (numtext_exact.calls (hG := x39_0) kj26 (fun k_ => some k_ = (.slice Ao47 x6_13.length co47 : Value).ownBlock) _ _ x6_13 (wrap64 (t140 - (wrap64 (4 * x7_13)))) t142 true _ ?side1 A43.out).mono ?_); (case side1 => exact Kd.R_V (Kd.R_tight rfl (HO_6.out))); rintro e w48 ⟨rfl, hb⟩; refine ⟨_, rfl, ?_⟩; have n0_ := Aside0.mk (Kd.R_below x39_6 hb); have n1_ := Aside0.mk (below_step x39_2 hb); clear HO_6; clear HB; have HO_6 := n0_; have HB := n1_; clear n0_ n1_))
              go_ret2
              exact ⟨x39_7, x39_2⟩
             ·replace c45 := Bool.eq_false_iff.mpr c45
              subst c45
              rw [if_neg (show ¬ (false = true) by decide)] at H
              simp only [Option.some.injEq, Prod.mk.injEq] at H
              obtain ⟨rfl, rfl⟩ := H
              go_wp2_with (first | ((with_reducible refine gate_callee (f := 26) rfl ?_); refine goesL_ (some 110) rfl rfl Tryd.func26 (by kernel_rfl) rfl #[.string t136] rfl x39_1 ?_; (with_reducible refine (strconv_Atoi_29.calls t136 t140 t141 _ A42.out).mono ?_); rintro e w49 ⟨rfl, hb⟩; refine ⟨_, rfl, ?_⟩; have n0_ := Aside0.mk (Kd.R_below x39_6 hb); have n1_ := Aside0.mk (below_step x39_2 hb); clear HO_6; clear HB; have HO_6 := n0_; have HB := n1_; clear n0_ n1_; (try simp only [errW_none, errW_some]); obtain ⟨Ao50, co50, eo50⟩ := Kd.R_slice HO_6.out; subst eo50) | ((with_reducible refine gate_callee (f := 27) rfl ?_); refine goesL_ (some 119) rfl rfl Tryd.func27 (by kernel_rfl) rfl #[.slice Ao50 x6_13.length co50, .int .i64 (wrap64 (t140 - (wrap64 (4 * x7_13))))] rfl x39_1 ?_; (with_reducible refine (numtext_exact.calls (hG := x39_0) kj26 (fun k_ => some k_ = (.slice Ao50 x6_13.length co50 : Value).ownBlock) _ _ x6_13 (wrap64 (t140 - (wrap64 (4 * x7_13)))) t142 true _ ?side1 A43.out).mono ?_); (case side1 => exact Kd.R_V (Kd.R_tight rfl (HO_6.out))); rintro e w51 ⟨rfl, hb⟩; refine ⟨_, rfl, ?_⟩; have n0_ := Aside0.mk (Kd.R_below x39_6 hb); have n1_ := Aside0.mk (below_step x39_2 hb); clear HO_6; clear HB; have HO_6 := n0_; have HB := n1_; clear n0_ n1_))
              go_ret2
              exact ⟨x39_7, x39_2⟩
            ·replace c44 := Bool.eq_false_iff.mpr c44
             subst c44
             rw [if_neg (show ¬ (false = true) by decide)] at H
             simp only [Option.some.injEq, Prod.mk.injEq] at H
             obtain ⟨rfl, rfl⟩ := H
             go_wp2_with (first | ((with_reducible refine gate_callee (f := 26) rfl ?_); refine goesL_ (some 110) rfl rfl Tryd.func26 (by kernel_rfl) rfl #[.string t136] rfl x39_1 ?_; (with_reducible refine (strconv_Atoi_29.calls t136 t140 t141 _ A42.out).mono ?_); rintro e w52 ⟨rfl, hb⟩; refine ⟨_, rfl, ?_⟩; have n0_ := Aside0.mk (Kd.R_below x39_6 hb); have n1_ := Aside0.mk (below_step x39_2 hb); clear HO_6; clear HB; have HO_6 := n0_; have HB := n1_; clear n0_ n1_; (try simp only [errW_none, errW_some]); obtain ⟨Ao53, co53, eo53⟩ := Kd.R_slice HO_6.out; subst eo53) | ((with_reducible refine gate_callee (f := 27) rfl ?_); refine goesL_ (some 119) rfl rfl Tryd.func27 (by kernel_rfl) rfl #[.slice Ao53 x6_13.length co53, .int .i64 (wrap64 (t140 - (wrap64 (4 * x7_13))))] rfl x39_1 ?_; (with_reducible refine (numtext_exact.calls (hG := x39_0) kj26 (fun k_ => some k_ = (.slice Ao53 x6_13.length co53 : Value).ownBlock) _ _ x6_13 (wrap64 (t140 - (wrap64 (4 * x7_13)))) t142 false _ ?side1 A43.out).mono ?_); (case side1 => exact Kd.R_V (Kd.R_tight rfl (HO_6.out))); rintro e w54 ⟨rfl, hb⟩; refine ⟨_, rfl, ?_⟩; have n0_ := Aside0.mk (Kd.R_below x39_6 hb); have n1_ := Aside0.mk (below_step x39_2 hb); clear HO_6; clear HB; have HO_6 := n0_; have HB := n1_; clear n0_ n1_))
             go_ret2
             exact ⟨x39_7, x39_2⟩
def numtext_Int.f (a0 : Int) : Option (ByteArray) := (strconv_FormatInt_33.f a0 10).bind fun t144 => (some t144)
end Go.Proofs.YtjolkombhdibcaaDoor.Print
end
section
namespace Go.Proofs.YtjolkombhdibcaaDoor.Sp
open Go.RowKit Go.Proofs.YtjolkombhdibcaaDoorW.PrintWords Go.Proofs.YtjolkombhdibcaaDoorW.PrintMore Go.Proofs.YtjolkombhdibcaaDoor.Given Go.Proofs.YtjolkombhdibcaaDoor.Print
set_option linter.unusedVariables false
set_option linter.unusedSimpArgs false
def cutN : List UInt8 → List Nat × List UInt8
  | [] => ([], [])
  | c :: r => match hexV c with
    | some v => (v :: (cutN r).1, (cutN r).2)
    | none => ([], c :: r)
theorem cutS_eq : ∀ l : List UInt8, cutS l = (ints (cutN l).1, (cutN l).2)
  | [] => rfl
  | c :: r => by
    unfold cutS cutN
    cases hexV c with
    | none => rfl
    | some v => simp only [cutS_eq r]; rfl
theorem cutN_len : ∀ l : List UInt8, (cutN l).1.length + (cutN l).2.length = l.length
  | [] => rfl
  | c :: r => by
    unfold cutN
    cases hexV c with
    | none => simp
    | some v => simp only [List.length_cons]; have := cutN_len r; omega
theorem hexV_lt {c : UInt8} {v : Nat} (h : hexV c = some v) : v < 16 := by
  unfold hexV at h
  split at h
  · cases h; omega
  · split at h
    · cases h; omega
    · cases h
theorem cutN_lt : ∀ l : List UInt8, ∀ d ∈ (cutN l).1, d < 16
  | [] => by intro d hd; simp [cutN] at hd
  | c :: r => by
    intro d hd
    unfold cutN at hd
    cases h : hexV c with
    | none => rw [h] at hd; simp at hd
    | some v =>
      rw [h] at hd
      simp only [List.mem_cons] at hd
      rcases hd with rfl | hd
      · exact hexV_lt h
      · exact cutN_lt r d hd
def signN (neg : Bool) : Nat := if neg = true then 9223372036854775808 else 0
def expo (c : UInt8) (r : List UInt8) : Int := if c = 45 then -(decVal 0 r : Int) else (decVal 0 r : Int)
def tailS (neg : Bool) (ds : List Nat) (behind : Nat) : List UInt8 → Int × Int
  | 112 :: c :: r => if (c = 43 ∨ c = 45) ∧ r ≠ [] ∧ r.length ≤ 5 ∧ r.all isDig = true then resR (signN neg) (exactS (val 16 0 ds) (expo c r - 4 * behind)) else (0, 20)
  | _ => (0, 20)
theorem tailS_p (neg : Bool) (ds : List Nat) (p : Nat) (c : UInt8) (r : List UInt8) : tailS neg ds p (112 :: c :: r) = if (c = 43 ∨ c = 45) ∧ r ≠ [] ∧ r.length ≤ 5 ∧ r.all isDig = true then resR (signN neg) (exactS (val 16 0 ds) (expo c r - 4 * p)) else (0, 20) := rfl
def dotS (neg : Bool) (d1 : List Nat) : List UInt8 → Int × Int
  | 46 :: r => if (cutN r).1 = [] then (0, 20) else tailS neg (d1 ++ (cutN r).1) (cutN r).1.length (cutN r).2
  | l => tailS neg d1 0 l
def bodyS (neg : Bool) (l : List UInt8) : Int × Int := if (cutN l).1 = [] then (0, 20) else dotS neg (cutN l).1 (cutN l).2
def hexS (neg : Bool) : List UInt8 → Int × Int
  | 48 :: 120 :: r => bodyS neg r
  | _ => (0, 20)
def pfS (l : List UInt8) : Int × Int :=
  if 64 < l.length then (0, 2)
  else if l = [110, 97, 110] then (9221120237041090560, 0)
  else if l = [105, 110, 102] then (9218868437227405312, 0)
  else if l = [45, 105, 110, 102] then (18442240474082181120, 0)
  else hexS (minusB l) (magB l)
theorem decVal_lt : ∀ (l : List UInt8) (a : Nat), l.all isDig = true → decVal a l < (a + 1) * 10 ^ l.length
  | [], a, _ => by rw [show decVal a [] = a from rfl, List.length_nil, Nat.pow_zero]; omega
  | c :: r, a, h => by
    simp only [List.all_cons, Bool.and_eq_true] at h
    have hc : 48 ≤ c.toNat ∧ c.toNat ≤ 57 := by simpa [isDig] using h.1
    have := decVal_lt r (a * 10 + (c.toNat - 48)) h.2
    refine Nat.lt_of_lt_of_le this ?_
    rw [List.length_cons, Nat.pow_succ, Nat.mul_comm (10 ^ r.length) 10, ← Nat.mul_assoc]
    exact Nat.mul_le_mul_right _ (by omega)
theorem decVal_small {l : List UInt8} (h : l.all isDig = true) (hl : l.length ≤ 5) : decVal 0 l < 100000 := by
  have h1 := decVal_lt l 0 h
  have h2 := Nat.pow_le_pow_right (n := 10) (by decide) hl
  rw [Nat.zero_add, Nat.one_mul] at h1
  exact Nat.lt_of_lt_of_le h1 h2
theorem parseUint10_dig : ∀ (l : List UInt8) (acc : Nat), l.all isDig = true → decVal acc l < 18446744073709551616 → Lib.parseUint10 acc l = .ok (decVal acc l)
  | [], acc, _, _ => rfl
  | c :: r, acc, h, hv => by
    simp only [List.all_cons, Bool.and_eq_true] at h
    have hc : 48 ≤ c.toNat ∧ c.toNat ≤ 57 := by simpa [isDig] using h.1
    have hv' : decVal (acc * 10 + (c.toNat - 48)) r < 18446744073709551616 := hv
    have hg := decVal_ge r (acc * 10 + (c.toNat - 48))
    rw [Lib.parseUint10, if_pos hc, if_neg (by omega), if_neg (by omega), parseUint10_dig r _ h.2 hv']
    rfl
theorem atoi_ok {c : UInt8} {r : List UInt8} (hc : c = 43 ∨ c = 45) (h0 : r ≠ []) (h1 : r.all isDig = true) (h2 : r.length ≤ 5) : Lib.atoiAll (c :: r) = .ok (expo c r) := by
  have hv := decVal_small h1 h2
  unfold Lib.atoiAll Lib.parseMag
  rcases hc with rfl | rfl
  · simp only [show UInt8.toNat 43 = 43 from rfl, show UInt8.toNat 45 = 45 from rfl]
    simp only [true_or, if_true, if_neg h0, parseUint10_dig r 0 h1 (by omega)]
    simp [expo]
    omega
  · simp only [show UInt8.toNat 43 = 43 from rfl, show UInt8.toNat 45 = 45 from rfl]
    simp only [or_true, if_true, if_neg h0, parseUint10_dig r 0 h1 (by omega)]
    simp [expo]
    omega
theorem cutp (l p : List UInt8) : strings_CutPrefix.f (bs l) (bs p) = some (bs (Lib.trimPrefix l p), Lib.hasPrefix l p) := rfl
theorem pre1 (c : UInt8) (l : List UInt8) : (Lib.hasPrefix l [c] = true ∧ ∃ r, l = c :: r ∧ Lib.trimPrefix l [c] = r) ∨ (Lib.hasPrefix l [c] = false ∧ Lib.trimPrefix l [c] = l ∧ ∀ r, l ≠ c :: r) := by
  unfold Lib.trimPrefix Lib.hasPrefix
  cases l with
  | nil => right; simp
  | cons d r =>
    by_cases h : d = c
    · subst h; left; simp
    · have h' : ¬ c = d := fun e => h e.symm
      right; simp [List.isPrefixOf, h, h']
theorem nf_j2_no (l : List UInt8) (neg : Bool) (ds : List Int) (p : Int) : Ev (fun k => numtext_ParseFloat.j2 k (bs l) neg ds p true) (0, 20) := by
  refine Ev.step (fun k => by rw [numtext_ParseFloat.j2]) ?_
  exact Ev.yes rfl (Ev.ret rfl)
theorem nf_j1 (l : List UInt8) (neg : Bool) (ds : List Nat) (p : Nat) (hl : l.length ≤ 64) (hd : ∀ d ∈ ds, d < 16) (hds : ds.length ≤ 200) (hp : p ≤ 200) :
    Ev (fun k => numtext_ParseFloat.j1 k (bs l) neg true (ints ds) (p : Int)) (tailS neg ds p l) := by
  refine Ev.step (fun k => by rw [numtext_ParseFloat.j1]) ?_
  refine Ev.bind0 (cutp l [112]) ?_
  refine Ev.yes rfl ?_
  rcases pre1 112 l with ⟨h1, r, rfl, h2⟩ | ⟨h1, h2, h3⟩
  · rw [h1, h2]
    refine Ev.yes rfl ?_
    simp only [bs_size]
    cases r with
    | nil => exact Ev.yes (by simp) (nf_j2_no _ _ _ _)
    | cons c r =>
      by_cases s1 : ((c :: r).length : Int) < 2
      · have : r = [] := List.eq_nil_of_length_eq_zero (by simp at s1; omega)
        subst this
        refine Ev.yes s1 ?_
        rw [show tailS neg ds p [112, c] = (0, 20) by simp [tailS]]
        exact nf_j2_no _ _ _ _
      · refine Ev.no s1 ?_
        have hne : r ≠ [] := by rintro rfl; simp at s1
        by_cases s2 : ((c :: r).length : Int) > 6
        · refine Ev.yes s2 ?_
          rw [show tailS neg ds p (112 :: c :: r) = (0, 20) by rw [tailS_p, if_neg (fun h => by have := h.2.2.1; simp at s2; omega)]]
          exact nf_j2_no _ _ _ _
        · refine Ev.no s2 (Ev.yes (by simp <;> omega) ?_)
          have hr5 : r.length ≤ 5 := by simp at s2; omega
          rw [bt0]
          have go : (c = 43 ∨ c = 45) → Ev (fun k => (numtext_digits.f ((bs (c :: r)).extract 1 (c :: r).length)).bind fun t => numtext_ParseFloat.j2 k (bs (c :: r)) neg (ints ds) (p : Int) (!t)) (tailS neg ds p (112 :: c :: r)) := by
            intro hc
            have e1 : (bs (c :: r)).extract 1 (c :: r).length = bs r := by rw [← bs_size]; exact bs_from _ 1
            rw [e1]
            refine Ev.bind0 (a := digitsB r) (by unfold numtext_digits.f; rw [if_pos (by rw [bs_size]; unfold maxLen; omega)]) ?_
            have hdb : digitsB r = r.all isDig := by
              unfold digitsB
              cases r with
              | nil => exact absurd rfl hne
              | cons a b => simp
            rw [hdb]
            by_cases ha : r.all isDig = true
            · rw [ha]
              rw [tailS_p, if_pos ⟨hc, hne, hr5, ha⟩]
              refine Ev.step (fun k => by rw [numtext_ParseFloat.j2]) ?_
              refine Ev.no (by simp) ?_
              have hv := decVal_small ha hr5
              have hx : -100000 ≤ expo c r ∧ expo c r ≤ 100000 := by unfold expo; split <;> omega
              refine Ev.bind0 (a := (expo c r, Option.none)) (by
                unfold strconv_Atoi_29.f
                rw [if_pos (by rw [bs_size]; simp; omega), atoi_ok hc hne ha hr5]) ?_
              rw [w64 (x := 4 * (p : Int)) (by omega) (by omega), w64 (x := expo c r - 4 * (p : Int)) (by omega) (by omega)]
              refine Ev.bind (exact_ev ds _ hd (by omega) (by omega)) ?_
              cases hE : exactS (val 16 0 ds) (expo c r - 4 * (p : Int)) with
              | none => exact Ev.no (by simp [resE]) (Ev.ret rfl)
              | some b =>
                have hb := exactS_lt hE
                refine Ev.yes rfl ?_
                cases neg with
                | true => exact Ev.yes rfl (Ev.ret (by show (Go.bits .or .u64 (b : Int) 9223372036854775808, (0 : Int)) = _; rw [u64_or63 b (by omega)]; rfl))
                | false => exact Ev.no (by simp) (Ev.ret (by simp [resE, resR, signN]))
            · have ha' : r.all isDig = false := by simpa using ha
              rw [ha']
              rw [show tailS neg ds p (112 :: c :: r) = (0, 20) by rw [tailS_p, if_neg (fun h => ha h.2.2.2)]]
              exact nf_j2_no _ _ _ _
          by_cases c43 : c = 43
          · refine Ev.yes (by subst c43; rfl) (Ev.yes (by simp; omega) ?_)
            exact go (.inl c43)
          · refine Ev.no (fun h => c43 (u8_eq (n := 43) h (by decide))) ?_
            by_cases c45 : c = 45
            · refine Ev.yes (by subst c45; rfl) (Ev.yes (by simp; omega) ?_)
              exact go (.inr c45)
            · refine Ev.no (fun h => c45 (u8_eq (n := 45) h (by decide))) ?_
              rw [show tailS neg ds p (112 :: c :: r) = (0, 20) by rw [tailS_p, if_neg (fun h => h.1.elim c43 c45)]]
              exact nf_j2_no _ _ _ _
  · rw [h1, h2]
    refine Ev.no (by simp) ?_
    have : tailS neg ds p l = (0, 20) := by
      unfold tailS
      split
      · rename_i c r; exact absurd rfl (h3 (c :: r))
      · rfl
    rw [this]
    exact nf_j2_no _ _ _ _
theorem nf_j1_no (l : List UInt8) (neg : Bool) (ds : List Int) (p : Int) : Ev (fun k => numtext_ParseFloat.j1 k (bs l) neg false ds p) (0, 20) := by
  refine Ev.step (fun k => by rw [numtext_ParseFloat.j1]) ?_
  refine Ev.bind0 (cutp l [112]) ?_
  refine Ev.no (by simp) ?_
  exact nf_j2_no _ _ _ _
theorem cut_f (l : List UInt8) (hl : l.length ≤ 1000) : numtext_cut.f (bs l) = some (ints (cutN l).1, bs (cutN l).2) := by
  unfold numtext_cut.f
  rw [if_pos (by rw [bs_size]; omega)]
  show some ((cutS l).1, bs (cutS l).2) = _
  rw [cutS_eq]
theorem nf_j0 (l : List UInt8) (neg : Bool) (ds : List Nat) (hl : l.length + ds.length ≤ 64) (hd : ∀ d ∈ ds, d < 16) (x5 : Bool) :
    Ev (fun k => numtext_ParseFloat.j0 k (bs l) neg x5 (ints ds)) (if x5 = true then dotS neg ds l else (0, 20)) := by
  refine Ev.step (fun k => by rw [numtext_ParseFloat.j0]) ?_
  refine Ev.bind0 (cutp l [46]) ?_
  rcases pre1 46 l with ⟨h1, r, rfl, h2⟩ | ⟨h1, h2, h3⟩
  · rw [h1, h2]
    refine Ev.yes rfl ?_
    refine Ev.bind0 (cut_f r (by simp at hl; omega)) ?_
    have hlen := cutN_len r
    simp only [ints_len]
    cases x5 with
    | false =>
      refine Ev.no (by simp) (Ev.yes (by simp at hl; omega) ?_)
      exact nf_j1_no _ _ _ _
    | true =>
      refine Ev.yes rfl (Ev.yes (by simp at hl; omega) ?_)
      rw [if_pos rfl]
      show Ev _ (if (cutN r).1 = [] then (0, 20) else tailS neg (ds ++ (cutN r).1) (cutN r).1.length (cutN r).2)
      by_cases h0 : (cutN r).1 = []
      · rw [if_pos h0, h0]
        exact nf_j1_no _ _ _ _
      · rw [if_neg h0]
        have : decide (((cutN r).1.length : Int) > 0) = true := decide_eq_true (by have := List.length_pos_iff.2 h0; omega)
        rw [this, ← ints_app]
        refine nf_j1 _ neg _ _ (by simp at hl; omega) (fun d hx => ?_) (by simp at hl ⊢; omega) (by simp at hl; omega)
        rcases List.mem_append.1 hx with hx | hx
        · exact hd d hx
        · exact cutN_lt r d hx
  · rw [h1, h2]
    refine Ev.no (by simp) ?_
    cases x5 with
    | false => exact nf_j1_no _ _ _ _
    | true =>
      rw [if_pos rfl]
      have : dotS neg ds l = tailS neg ds 0 l := by
        unfold dotS
        split
        · rename_i r; exact absurd rfl (h3 r)
        · rfl
      rw [this]
      exact nf_j1 l neg ds 0 (by omega) hd (by omega) (by omega)
theorem pre2 (l : List UInt8) : (Lib.hasPrefix l [48, 120] = true ∧ ∃ r, l = 48 :: 120 :: r ∧ Lib.trimPrefix l [48, 120] = r) ∨ (Lib.hasPrefix l [48, 120] = false ∧ Lib.trimPrefix l [48, 120] = l ∧ ∀ r, l ≠ 48 :: 120 :: r) := by
  unfold Lib.trimPrefix
  by_cases h : Lib.hasPrefix l [48, 120] = true
  · left
    obtain ⟨r, hr⟩ := List.isPrefixOf_iff_prefix.1 h
    refine ⟨h, r, hr.symm, ?_⟩
    rw [if_pos h, ← hr]; rfl
  · right
    have h' : Lib.hasPrefix l [48, 120] = false := by simpa using h
    refine ⟨h', by rw [if_neg h], fun r e => h ?_⟩
    rw [e]; rfl
theorem has_minus (l : List UInt8) : Lib.hasPrefix l [45] = minusB l := by
  unfold Lib.hasPrefix minusB
  cases l with
  | nil => rfl
  | cons c r =>
    by_cases h : c = 45
    · subst h; rfl
    · have e1 : (45 == c) = false := beq_eq_false_iff_ne.2 (fun e => h e.symm)
      have e2 : (c == 45) = false := beq_eq_false_iff_ne.2 h
      simp [List.isPrefixOf, e1, e2]
theorem parseFloat_ev (l : List UInt8) (hl : l.length ≤ 1000000) : Ev (fun k => numtext_ParseFloat.f k (bs l)) (pfS l) := by
  unfold numtext_ParseFloat.f pfS
  simp only [bs_size, bs_toList]
  by_cases h0 : 64 < l.length
  · rw [if_pos h0]; exact Ev.yes (by omega) (Ev.ret rfl)
  · rw [if_neg h0]
    refine Ev.no (by omega) ?_
    by_cases h1 : l = [110, 97, 110]
    · rw [if_pos h1]; exact Ev.yes h1 (Ev.ret rfl)
    · rw [if_neg h1]
      refine Ev.no h1 ?_
      by_cases h2 : l = [105, 110, 102]
      · rw [if_pos h2]; exact Ev.yes h2 (Ev.ret rfl)
      · rw [if_neg h2]
        refine Ev.no h2 ?_
        by_cases h3 : l = [45, 105, 110, 102]
        · rw [if_pos h3]; exact Ev.yes h3 (Ev.ret rfl)
        · rw [if_neg h3]
          refine Ev.no h3 ?_
          refine Ev.bind0 (cutp l [45]) ?_
          rw [trim_mag, has_minus]
          refine Ev.bind0 (cutp (magB l) [48, 120]) ?_
          have hm : (magB l).length ≤ 64 := by
            have : (magB l).length ≤ l.length := by unfold magB; split <;> simp
            omega
          generalize minusB l = neg
          generalize magB l = m at hm
          rcases pre2 m with ⟨g1, r, rfl, g2⟩ | ⟨g1, g2, g3⟩
          · rw [g1, g2]
            refine Ev.bind0 (cut_f r (by simp at hm; omega)) ?_
            refine Ev.yes rfl ?_
            simp only [ints_len]
            have hlen := cutN_len r
            have h := nf_j0 (cutN r).2 neg (cutN r).1 (by simp at hm; omega) (cutN_lt r) (decide (((cutN r).1.length : Int) > 0))
            show Ev _ (bodyS neg r)
            unfold bodyS
            by_cases hc : (cutN r).1 = []
            · rw [if_pos hc]
              rw [hc] at h
              simp at h
              rw [hc]
              simpa using h
            · rw [if_neg hc]
              have hp : decide (((cutN r).1.length : Int) > 0) = true := decide_eq_true (by have := List.length_pos_iff.2 hc; omega)
              rw [hp] at h ⊢
              rw [if_pos rfl] at h
              exact h
          · rw [g1, g2]
            refine Ev.bind0 (cut_f m (by omega)) ?_
            refine Ev.no (by simp) ?_
            have hlen := cutN_len m
            have h := nf_j0 (cutN m).2 neg (cutN m).1 (by omega) (cutN_lt m) false
            rw [if_neg (by simp)] at h
            have : hexS neg m = (0, 20) := by
              unfold hexS
              split
              · rename_i r; exact absurd rfl (g3 r)
              · rfl
            rw [this]
            exact h
end Go.Proofs.YtjolkombhdibcaaDoor.Sp
end
section
namespace Go.Proofs.YtjolkombhdibcaaDoor.Sp
end Go.Proofs.YtjolkombhdibcaaDoor.Sp
end
section
namespace Go.Proofs.YtjolkombhdibcaaDoor.Print
open Go.RowKit Go.Proofs.YtjolkombhdibcaaDoor.Given Go.Proofs.YtjolkombhdibcaaDoorW.PrintWords Go.Proofs.YtjolkombhdibcaaDoorW.PrintLast Go.Proofs.YtjolkombhdibcaaDoorW.PrintMore
attribute [local go_sem] max2_int min2_int max_two min_two max_three min_three max_four min_four
set_option linter.unusedVariables false
set_option linter.unusedSimpArgs false
theorem x42_2 {p : Prop} (h : p := by first | rfl | (simp; done) | (simp [*]; done)) : p := h
theorem x42_1 {p : Prop} (h : p := by repeat (first | exact Drawn0.refl _ | apply Drawn0.step)) : p := h
theorem x42_0 {p : Prop} (h : p := by (try simp only [List.map_toArray, List.map_cons, List.map_nil]); first | done | rfl | (simp only [List.length_drop, List.length_take]; rfl)) : p := h
mutual
def numtext_Float.j0 : Nat → Int → ByteArray → Option (ByteArray)
 | 0, _, _ => none
 | k + 1, x0, x3 => if (wrap64 (Go.bits .and .u64 (x0 / 4503599627370496) 2047)) = 2047 then (numtext_Float.j1 k x3 (Go.bits .and .u64 x0 4503599627370495) (wrap64 (Go.bits .and .u64 (x0 / 4503599627370496) 2047)) ((Go.bits .and .u64 x0 4503599627370495) != 0)) else (numtext_Float.j1 k x3 (Go.bits .and .u64 x0 4503599627370495) (wrap64 (Go.bits .and .u64 (x0 / 4503599627370496) 2047)) false)
def numtext_Float.j3 : Nat → ByteArray → Int → Int → Option (ByteArray)
 | 0, _, _, _ => none
 | k + 1, x3, x4, x5 => if x3.size + 3 ≤ 9223372036854775807 then (if x4 = 0 then (numtext_Float.j4 k x4 x5 (x3 ++ (⟨#[48, 120, 49]⟩ : ByteArray))) else (if (x3 ++ (⟨#[48, 120, 49]⟩ : ByteArray)).size + 1 ≤ 9223372036854775807 then (numtext_Float.j4 k x4 x5 ((x3 ++ (⟨#[48, 120, 49]⟩ : ByteArray)) ++ (⟨#[46]⟩ : ByteArray))) else (none))) else (none)
def numtext_Float.j4 : Nat → Int → Int → ByteArray → Option (ByteArray)
 | 0, _, _, _ => none
 | k + 1, x4, x5, x7 => numtext_Float.l0 k x4 x5 x7
def numtext_Float.l0 : Nat → Int → Int → ByteArray → Option (ByteArray)
 | 0, _, _, _ => none
 | k + 1, x4, x5, x7 => if x4 = 0 then (if x7.size + 1 ≤ 9223372036854775807 then (if (wrap64 (x5 - 1023)) ≥ 0 then (if (x7 ++ (⟨#[112]⟩ : ByteArray)).size + 1 ≤ 9223372036854775807 then ((numtext_Int.f (wrap64 (x5 - 1023))).bind fun t146 => (if ((x7 ++ (⟨#[112]⟩ : ByteArray)) ++ (⟨#[43]⟩ : ByteArray)).size + t146.size ≤ 9223372036854775807 then (some (((x7 ++ (⟨#[112]⟩ : ByteArray)) ++ (⟨#[43]⟩ : ByteArray)) ++ t146)) else (none))) else (none)) else ((numtext_Int.f (wrap64 (x5 - 1023))).bind fun t147 => (if (x7 ++ (⟨#[112]⟩ : ByteArray)).size + t147.size ≤ 9223372036854775807 then (some ((x7 ++ (⟨#[112]⟩ : ByteArray)) ++ t147)) else (none)))) else (none)) else (if 0 ≤ (x4 / 281474976710656) then (if (x4 / 281474976710656) ≤ (IntKind.u64.wrap ((x4 / 281474976710656) + 1)) then (if (IntKind.u64.wrap ((x4 / 281474976710656) + 1)) ≤ 16 then (if x7.size + ((⟨#[48, 49, 50, 51, 52, 53, 54, 55, 56, 57, 97, 98, 99, 100, 101, 102]⟩ : ByteArray).extract ((x4 / 281474976710656) : Int).toNat ((IntKind.u64.wrap ((x4 / 281474976710656) + 1)) : Int).toNat).size ≤ 9223372036854775807 then (numtext_Float.l0 k (Go.bits .and .u64 (IntKind.u64.wrap (x4 * 16)) 4503599627370495) x5 (x7 ++ ((⟨#[48, 49, 50, 51, 52, 53, 54, 55, 56, 57, 97, 98, 99, 100, 101, 102]⟩ : ByteArray).extract ((x4 / 281474976710656) : Int).toNat ((IntKind.u64.wrap ((x4 / 281474976710656) + 1)) : Int).toNat))) else (none)) else (none)) else (none)) else (none))
def numtext_Float.j1 : Nat → ByteArray → Int → Int → Bool → Option (ByteArray)
 | 0, _, _, _, _ => none
 | k + 1, x3, x4, x5, x17 => if x17 = true then (some (⟨#[110, 97, 110]⟩ : ByteArray)) else (if x5 = 2047 then (if x3.size + 3 ≤ 9223372036854775807 then (some (x3 ++ (⟨#[105, 110, 102]⟩ : ByteArray))) else (none)) else (if x5 = 0 then (numtext_Float.j2 k x3 x4 x5 (x4 == 0)) else (numtext_Float.j2 k x3 x4 x5 false)))
def numtext_Float.j2 : Nat → ByteArray → Int → Int → Bool → Option (ByteArray)
 | 0, _, _, _, _ => none
 | k + 1, x3, x4, x5, x29 => if x29 = true then (if x3.size + 6 ≤ 9223372036854775807 then (some (x3 ++ (⟨#[48, 120, 48, 112, 43, 48]⟩ : ByteArray))) else (none)) else (if x5 = 0 then ((bits_LeadingZeros64.f x4).bind fun t145 => (if 0 ≤ (wrap64 (t145 - 11)) then (numtext_Float.j3 k x3 (Go.bits .and .u64 (shl .u64 x4 (wrap64 (t145 - 11))) 4503599627370495) (wrap64 (1 - (wrap64 (t145 - 11))))) else (none))) else (numtext_Float.j3 k x3 x4 x5))
end
def lex_digit.f (a0 : Int) : Option (Bool) := if a0 ≥ 48 then (some (decide (a0 ≤ 57))) else (some false)
set_option maxHeartbeats 8000000 in
set_option maxRecDepth 100000 in
theorem lex_digit.calls (a0 : Int) (r : Bool) (w : World) (h : lex_digit.f a0 = some r) :
  Calls Tryd.prog 39 #[.int .u8 a0] w fun e w' => e = .returned (.bool r) ∧ Drawn0 w w' := by
 have H : (if a0 ≥ 48 then (some (decide (a0 ≤ 57))) else (some false)) = some r := h
 clear h
 by_cases c2 : a0 ≥ 48
 ·rw [if_pos c2] at H
  have c2b0 : decide (48 ≤ a0) = true := decide_eq_true c2
  clear c2
  obtain rfl := Option.some.inj H
  go_enter Tryd.func39, Tryd.ntmps39
  go_wp2
  go_ret
  exact ⟨x42_2, x42_1⟩
 ·rw [if_neg c2] at H
  have c2b0 : decide (48 ≤ a0) = false := decide_eq_false c2
  clear c2
  obtain rfl := Option.some.inj H
  go_enter Tryd.func39, Tryd.ntmps39
  go_wp2
  go_ret
  exact ⟨x42_2, x42_1⟩
def lex_hex.f (a0 : Int) : Option (Bool) := (lex_digit.f a0).bind fun t151 => (if t151 = true then (some true) else (if a0 ≥ 97 then (some (decide (a0 ≤ 102))) else (some false)))
set_option maxHeartbeats 8000000 in
set_option maxRecDepth 100000 in
theorem lex_hex.calls (a0 : Int) (r : Bool) (w : World) (h : lex_hex.f a0 = some r) :
  Calls Tryd.prog 60 #[.int .u8 a0] w fun e w' => e = .returned (.bool r) ∧ Drawn0 w w' := by
 have H : ((lex_digit.f a0).bind fun t151 => (if t151 = true then (some true) else (if a0 ≥ 97 then (some (decide (a0 ≤ 102))) else (some false)))) = some r := h
 clear h
 obtain ⟨t151, A20, H⟩ := Option.bind_eq_some_iff.mp H
 have A2 := Aside0.mk A20
 clear A20
 by_cases c3 : t151 = true
 ·subst c3
  rw [if_pos rfl] at H
  obtain rfl := Option.some.inj H
  go_enter Tryd.func60, Tryd.ntmps60
  go_wp2_with (first | ((with_reducible refine gate_callee (f := 39) rfl ?_); refine goesL_ (some 4) rfl rfl Tryd.func39 (by kernel_rfl) rfl #[.int .u8 a0] rfl x42_0 ?_; (with_reducible refine (lex_digit.calls a0 true _ A2.out).mono ?_); rintro e w' ⟨rfl, ⟨nd, rfl⟩⟩; refine ⟨_, rfl, ?_⟩))
  go_ret
  exact ⟨x42_2, x42_1⟩
 ·replace c3 := Bool.eq_false_iff.mpr c3
  subst c3
  rw [if_neg (show ¬ (false = true) by decide)] at H
  by_cases c4 : a0 ≥ 97
  ·rw [if_pos c4] at H
   have c4b0 : decide (97 ≤ a0) = true := decide_eq_true c4
   clear c4
   obtain rfl := Option.some.inj H
   go_enter Tryd.func60, Tryd.ntmps60
   go_wp2_with (first | ((with_reducible refine gate_callee (f := 39) rfl ?_); refine goesL_ (some 4) rfl rfl Tryd.func39 (by kernel_rfl) rfl #[.int .u8 a0] rfl x42_0 ?_; (with_reducible refine (lex_digit.calls a0 false _ A2.out).mono ?_); rintro e w' ⟨rfl, ⟨nd, rfl⟩⟩; refine ⟨_, rfl, ?_⟩))
   go_ret
   exact ⟨x42_2, x42_1⟩
  ·rw [if_neg c4] at H
   have c4b0 : decide (97 ≤ a0) = false := decide_eq_false c4
   clear c4
   obtain rfl := Option.some.inj H
   go_enter Tryd.func60, Tryd.ntmps60
   go_wp2_with (first | ((with_reducible refine gate_callee (f := 39) rfl ?_); refine goesL_ (some 4) rfl rfl Tryd.func39 (by kernel_rfl) rfl #[.int .u8 a0] rfl x42_0 ?_; (with_reducible refine (lex_digit.calls a0 false _ A2.out).mono ?_); rintro e w' ⟨rfl, ⟨nd, rfl⟩⟩; refine ⟨_, rfl, ?_⟩))
   go_ret
   exact ⟨x42_2, x42_1⟩
end Go.Proofs.YtjolkombhdibcaaDoor.Print
end
section
namespace Go.Proofs.YtjolkombhdibcaaDoor.Sp
end Go.Proofs.YtjolkombhdibcaaDoor.Sp
end
section
namespace Go.Proofs.YtjolkombhdibcaaDoor.Sp
open Go.RowKit Go.Proofs.YtjolkombhdibcaaDoorW.PrintWords Go.Proofs.YtjolkombhdibcaaDoorW.PrintMore Go.Proofs.YtjolkombhdibcaaDoor.Given Go.Proofs.YtjolkombhdibcaaDoor.Print
open Go.Lib (decDigits itoa nDigits)
set_option linter.unusedVariables false
set_option linter.unusedSimpArgs false
theorem parseInt_f (l : List UInt8) (hl : l.length ≤ 1000000) : numtext_ParseInt.f (bs l) = some (parseIntT l) := by
  unfold numtext_ParseInt.f
  rw [if_pos (by rw [bs_size]; unfold maxLen; omega)]
  show some (parseIntS l) = _
  rw [parseIntS_eq]
def Err0 (p : Int × Int) : Prop := p.2 ≠ 0 → p.1 = 0
theorem Err0.ok (b : Int) : Err0 (b, 0) := fun h => absurd rfl h
end Go.Proofs.YtjolkombhdibcaaDoor.Sp
end
section
namespace Go.Proofs.YtjolkombhdibcaaDoor.Print
open Go.RowKit Go.Proofs.YtjolkombhdibcaaDoor.Given Go.Proofs.YtjolkombhdibcaaDoorW.PrintWords Go.Proofs.YtjolkombhdibcaaDoorW.PrintLast Go.Proofs.YtjolkombhdibcaaDoorW.PrintMore
attribute [local go_sem] max2_int min2_int max_two min_two max_three min_three max_four min_four
set_option linter.unusedVariables false
set_option linter.unusedSimpArgs false
theorem x45_13 {p : Prop} (h : p := by first | rfl | (simp; done) | (simp [*]; done)) : p := h
theorem x45_12 {p : Prop} (h : p := by first | (with_reducible assumption) | assumption) : p := h
theorem x45_11 {p : Prop} (h : p := by repeat (first | exact Drawn0.refl _ | apply Drawn0.step)) : p := h
theorem x45_10 {p : Prop} (h : p := by first | rfl | (simp [errW_none, errW_some] <;> rfl) | (simp [*, errW_none, errW_some] <;> rfl)) : p := h
theorem x45_9 {p : Prop} (h : p := by (with_reducible repeat first | apply blk_drewN | apply blk_drew | apply blk_alloc); exact BK177.out) : p := h
theorem x45_8 {p : Prop} (h : p := by (with_reducible repeat first | apply blk_drewN | apply blk_drew | apply blk_alloc); exact BK175.out) : p := h
theorem x45_7 {p : Prop} (h : p := by rw [← hq_]; exact x45_8) : p := h
theorem x45_6 {p : Prop} (h : p := by repeat (first | (with_reducible first | exact HB.out | apply below_alloc | apply pw_below_drewN | apply below_drew1) | exact HB.out)) : p := h
theorem x45_5 {p : Prop} (h : p := by (try simp only [List.map_toArray, List.map_cons, List.map_nil]); first | done | rfl | (simp only [List.length_drop, List.length_take]; rfl)) : p := h
theorem x45_4 {p : Prop} (h : p := by repeat (first | (with_reducible first | exact HB.out | apply below_alloc | apply pw_below_drewN | apply below_drew1 | refine below_set ?_ GE175.out) | exact HB.out)) : p := h
theorem x45_3 {p : Prop} (h : p := by rw [← hq_]; exact x45_4) : p := h
theorem x45_2 {p : Prop} (h : p := by repeat (first | (with_reducible first | exact HB.out | apply below_alloc | apply pw_below_drewN | apply below_drew1 | refine below_set ?_ GE175.out | refine below_set ?_ GE177.out) | exact HB.out)) : p := h
theorem x45_1 {p : Prop} (h : p := by (with_reducible repeat first | apply blk_drewN | apply blk_drew | apply blk_alloc); refine blk_far ?_ NB175_177.out _; (with_reducible repeat first | apply blk_drewN | apply blk_drew | apply blk_alloc); refine blk_far ?_ NB175_177.out _; (with_reducible repeat first | apply blk_drewN | apply blk_drew | apply blk_alloc); refine blk_far ?_ NB175_177.out _; (with_reducible repeat first | apply blk_drewN | apply blk_drew | apply blk_alloc); refine blk_far ?_ NB175_177.out _; (with_reducible repeat first | apply blk_drewN | apply blk_drew | apply blk_alloc); refine blk_far ?_ NB175_177.out _; (with_reducible repeat first | apply blk_drewN | apply blk_drew | apply blk_alloc); exact BK175.out) : p := h
theorem x45_0 {p : Prop} (h : p := by (with_reducible repeat first | apply blk_drewN | apply blk_drew | apply blk_alloc); refine blk_put (cs := #[.int .i64 1, .int .i64 0, .string (a0.extract 0 (t176 : Int).toNat), .int .i64 0, .int .u64 0]) ?_ 4 _ rfl; (with_reducible repeat first | apply blk_drewN | apply blk_drew | apply blk_alloc); refine blk_put (cs := #[.int .i64 1, .int .i64 0, .string (a0.extract 0 (t176 : Int).toNat), .int .i64 0, .int .u64 0]) ?_ 3 _ rfl; (with_reducible repeat first | apply blk_drewN | apply blk_drew | apply blk_alloc); refine blk_put (cs := #[.int .i64 1, .int .i64 0, .string (⟨#[]⟩ : ByteArray), .int .i64 0, .int .u64 0]) ?_ 2 _ rfl; (with_reducible repeat first | apply blk_drewN | apply blk_drew | apply blk_alloc); refine blk_put (cs := #[.int .i64 1, .int .i64 0, .string (⟨#[]⟩ : ByteArray), .int .i64 0, .int .u64 0]) ?_ 1 _ rfl; (with_reducible repeat first | apply blk_drewN | apply blk_drew | apply blk_alloc); refine blk_put (cs := #[.int .i64 0, .int .i64 0, .string (⟨#[]⟩ : ByteArray), .int .i64 0, .int .u64 0]) ?_ 0 _ rfl; (with_reducible repeat first | apply blk_drewN | apply blk_drew | apply blk_alloc); exact BK177.out) : p := h
def lex_lower.f (a0 : Int) : Option (Bool) := if a0 ≥ 97 then (if a0 ≤ 122 then (some true) else (some (a0 == 95))) else (some (a0 == 95))
set_option maxHeartbeats 8000000 in
set_option maxRecDepth 100000 in
theorem lex_lower.calls (a0 : Int) (r : Bool) (w : World) (h : lex_lower.f a0 = some r) :
  Calls Tryd.prog 35 #[.int .u8 a0] w fun e w' => e = .returned (.bool r) ∧ Drawn0 w w' := by
 have H : (if a0 ≥ 97 then (if a0 ≤ 122 then (some true) else (some (a0 == 95))) else (some (a0 == 95))) = some r := h
 clear h
 by_cases c2 : a0 ≥ 97
 ·rw [if_pos c2] at H
  have c2b0 : decide (97 ≤ a0) = true := decide_eq_true c2
  clear c2
  by_cases c3 : a0 ≤ 122
  ·rw [if_pos c3] at H
   have c3b0 := decide_eq_true c3
   clear c3
   obtain rfl := Option.some.inj H
   go_enter Tryd.func35, Tryd.ntmps35
   go_wp2
   go_ret
   exact ⟨x45_13, x45_11⟩
  ·rw [if_neg c3] at H
   have c3b0 := decide_eq_false c3
   clear c3
   obtain rfl := Option.some.inj H
   go_enter Tryd.func35, Tryd.ntmps35
   go_wp2
   go_ret
   exact ⟨x45_13, x45_11⟩
 ·rw [if_neg c2] at H
  have c2b0 : decide (97 ≤ a0) = false := decide_eq_false c2
  clear c2
  obtain rfl := Option.some.inj H
  go_enter Tryd.func35, Tryd.ntmps35
  go_wp2
  go_ret
  exact ⟨x45_13, x45_11⟩
def slices_Index_string_string.l0 : Nat → List ByteArray → ByteArray → Int → Int → Option (Int)
 | 0, _, _, _, _ => none
 | k + 1, x0, x1, x7, x8 => if x8 < x7 then (if 0 ≤ x8 then (if x8 < (x0.length : Int) then (if x1.toList = (rdOf ByteArray.empty x0 x8).toList then (some x8) else (slices_Index_string_string.l0 k x0 x1 x7 (wrap64 (x8 + 1)))) else (none)) else (none)) else (some (-1))
def slices_Index_string_string.f (k : Nat) (l0 : List ByteArray) (a1 : ByteArray) : Option (Int) := slices_Index_string_string.l0 k l0 a1 (l0.length : Int) 0
set_option maxHeartbeats 8000000 in
set_option maxRecDepth 100000 in
theorem slices_Index_string_string.calls (k : Nat) (A0 : Option Addr) (c0 : Nat) (l0 : List ByteArray) (a1 : ByteArray) (r : Int) (w : World) (hr0 : Kd.C Kd.string w A0 l0.length l0) (hc0 : l0.length ≤ c0) (h : slices_Index_string_string.f k l0 a1 = some r) :
  Calls Tryd.prog 73 #[.slice A0 l0.length c0, .string a1] w fun e w' => e = .returned (.int .i64 r) ∧ Drawn0 w w' := by
 have HR0 := Aside0.mk hr0
 have HC0 := Aside0.mk hc0
 clear hr0 hc0
 have H : (slices_Index_string_string.l0 k l0 a1 (l0.length : Int) 0) = some r := h
 clear h
 have H' := Aside0.mk H
 clear H
 go_enter Tryd.func73, Tryd.ntmps73
 go_wp2
 go_loopg [8] k (fun kq v8 w' => ∃ (x8_1 : Int), v8 = .int .i64 x8_1 ∧ Aside0 (slices_Index_string_string.l0 kq l0 a1 (l0.length : Int) x8_1 = some r) ∧ Aside0 (kq ≤ k) ∧ Drawn0 w w')
 case atStart => exact ⟨(0), x45_13, H', ⟨Nat.le_refl _⟩, x45_11⟩
 case round =>
  clear H'
  obtain ⟨x8_1, rfl, HA, HK1, ⟨m1, rfl⟩⟩ := hrel
  cases gk with
  | zero => exact absurd HA.out (by simp [slices_Index_string_string.l0])
  | succ k1 =>
   have H := HA.out
   clear HA
   simp only [slices_Index_string_string.l0] at H
   by_cases c3 : x8_1 < (l0.length : Int)
   ·rw [if_pos c3] at H
    have c3b0 := decide_eq_true c3
    clear c3
    by_cases c4 : 0 ≤ x8_1
    ·rw [if_pos c4] at H
     have c4b0 := decide_eq_true c4
     clear c4
     by_cases c5 : x8_1 < (l0.length : Int)
     ·rw [if_pos c5] at H
      have c5b0 := decide_eq_true c5
      clear c5
      by_cases c6 : a1.toList = (rdOf ByteArray.empty l0 x8_1).toList
      ·rw [if_pos c6] at H
       have c6b0 := beq_iff_eq.mpr c6
       have c6b1 := bne_eq_false_iff_eq.mpr c6
       clear c6
       obtain rfl := Option.some.inj H
       have p170 : 0 ≤ (x8_1 : Int) := of_decide_eq_true x45_12
       have q170 : x8_1 < (l0.length : Int) := of_decide_eq_true x45_12
       obtain ⟨ad170, e170, hx170_0⟩ := Kd.at_string HR0.out x8_1 p170 q170
       cases e170
       replace p170 := eq_true p170
       replace q170 := eq_true q170
       go_wp2
       go_ret
       exact ⟨x45_13, x45_11⟩
      ·rw [if_neg c6] at H
       have c6b0 := beq_eq_false_iff_ne.mpr c6
       have c6b1 := bne_iff_ne.mpr c6
       have H' := Aside0.mk H
       clear H
       have p170 : 0 ≤ (x8_1 : Int) := of_decide_eq_true x45_12
       have q170 : x8_1 < (l0.length : Int) := of_decide_eq_true x45_12
       obtain ⟨ad170, e170, hx170_0⟩ := Kd.at_string HR0.out x8_1 p170 q170
       cases e170
       replace p170 := eq_true p170
       replace q170 := eq_true q170
       go_wp2
       go_roundg k1
       case measure => have := HK1.out; omega
       case rel => exact ⟨(wrap64 (x8_1 + 1)), x45_13, H', ⟨by have := HK1.out; omega⟩, x45_11⟩
     ·rw [if_neg c5] at H
      exact absurd H (by simp)
    ·rw [if_neg c4] at H
     exact absurd H (by simp)
   ·rw [if_neg c3] at H
    have c3b0 := decide_eq_false c3
    clear c3
    obtain rfl := Option.some.inj H
    go_wp2
    go_ret
    exact ⟨x45_13, x45_11⟩
def slices_Contains_string_string.f (k : Nat) (l0 : List ByteArray) (a1 : ByteArray) : Option (Bool) := (slices_Index_string_string.f k l0 a1).bind fun t171 => (some (decide (t171 ≥ 0)))
set_option maxHeartbeats 8000000 in
set_option maxRecDepth 100000 in
theorem slices_Contains_string_string.calls (k : Nat) (A0 : Option Addr) (c0 : Nat) (l0 : List ByteArray) (a1 : ByteArray) (r : Bool) (w : World) (hr0 : Kd.C Kd.string w A0 l0.length l0) (hc0 : l0.length ≤ c0) (h : slices_Contains_string_string.f k l0 a1 = some r) :
  Calls Tryd.prog 56 #[.slice A0 l0.length c0, .string a1] w fun e w' => e = .returned (.bool r) ∧ Drawn0 w w' := by
 have HR0 := Aside0.mk hr0
 have HC0 := Aside0.mk hc0
 clear hr0 hc0
 have H : ((slices_Index_string_string.f k l0 a1).bind fun t171 => (some (decide (t171 ≥ 0)))) = some r := h
 clear h
 obtain ⟨t171, A30, H⟩ := Option.bind_eq_some_iff.mp H
 have A3 := Aside0.mk A30
 clear A30
 obtain rfl := Option.some.inj H
 go_enter Tryd.func56, Tryd.ntmps56
 go_wp2_with (first | ((with_reducible refine gate_callee (f := 73) rfl ?_); refine goesL_ (some 7) rfl rfl Tryd.func73 (by kernel_rfl) rfl #[.slice A0 l0.length c0, .string a1] rfl x45_5 ?_; (with_reducible refine (slices_Index_string_string.calls k _ _ l0 a1 t171 _ ?side1 ?side2 A3.out).mono ?_); (case side1 => repeat (first | exact HR0.out | (with_reducible refine Kd.C_alloc ?_ _) | (with_reducible refine Kd.C_drewN ?_ _) | (with_reducible refine Kd.C_drew ?_))); (case side2 => exact HC0.out); rintro e w' ⟨rfl, ⟨nd, rfl⟩⟩; refine ⟨_, rfl, ?_⟩))
 go_ret
 exact ⟨x45_13, x45_11⟩
def lex_words.f  : Option (List ByteArray) := some (([(⟨#[102, 110]⟩ : ByteArray), (⟨#[108, 101, 116]⟩ : ByteArray), (⟨#[105, 102]⟩ : ByteArray), (⟨#[101, 108, 115, 101]⟩ : ByteArray), (⟨#[119, 104, 105, 108, 101]⟩ : ByteArray), (⟨#[102, 111, 114]⟩ : ByteArray), (⟨#[105, 110]⟩ : ByteArray), (⟨#[98, 114, 101, 97, 107]⟩ : ByteArray), (⟨#[99, 111, 110, 116, 105, 110, 117, 101]⟩ : ByteArray), (⟨#[114, 101, 116, 117, 114, 110]⟩ : ByteArray), (⟨#[111, 117, 116]⟩ : ByteArray), (⟨#[97, 110, 100]⟩ : ByteArray), (⟨#[111, 114]⟩ : ByteArray), (⟨#[110, 111, 116]⟩ : ByteArray), (⟨#[116, 114, 117, 101]⟩ : ByteArray), (⟨#[102, 97, 108, 115, 101]⟩ : ByteArray), (⟨#[110, 105, 108]⟩ : ByteArray)] : List ByteArray))
set_option maxHeartbeats 8000000 in
set_option maxRecDepth 100000 in
theorem lex_words.calls  (r : List ByteArray) (w : World) (h : lex_words.f  = some r) :
  Calls Tryd.prog 57 #[] w fun e w' => ∃ v0_ : Value, e = .returned (v0_) ∧ Kd.R Kd.string 9 w' w.heap.size (fun _ => True) v0_ r ∧ Below w.heap.size w w' := by
 have HB := Aside0.mk (Below.refl w.heap.size w)
 have H : (some (([(⟨#[102, 110]⟩ : ByteArray), (⟨#[108, 101, 116]⟩ : ByteArray), (⟨#[105, 102]⟩ : ByteArray), (⟨#[101, 108, 115, 101]⟩ : ByteArray), (⟨#[119, 104, 105, 108, 101]⟩ : ByteArray), (⟨#[102, 111, 114]⟩ : ByteArray), (⟨#[105, 110]⟩ : ByteArray), (⟨#[98, 114, 101, 97, 107]⟩ : ByteArray), (⟨#[99, 111, 110, 116, 105, 110, 117, 101]⟩ : ByteArray), (⟨#[114, 101, 116, 117, 114, 110]⟩ : ByteArray), (⟨#[111, 117, 116]⟩ : ByteArray), (⟨#[97, 110, 100]⟩ : ByteArray), (⟨#[111, 114]⟩ : ByteArray), (⟨#[110, 111, 116]⟩ : ByteArray), (⟨#[116, 114, 117, 101]⟩ : ByteArray), (⟨#[102, 97, 108, 115, 101]⟩ : ByteArray), (⟨#[110, 105, 108]⟩ : ByteArray)] : List ByteArray))) = some r := h
 clear h
 obtain ⟨y172, hy172⟩ : ∃ y_ : List ByteArray, y_ = (([(⟨#[102, 110]⟩ : ByteArray), (⟨#[108, 101, 116]⟩ : ByteArray), (⟨#[105, 102]⟩ : ByteArray), (⟨#[101, 108, 115, 101]⟩ : ByteArray), (⟨#[119, 104, 105, 108, 101]⟩ : ByteArray), (⟨#[102, 111, 114]⟩ : ByteArray), (⟨#[105, 110]⟩ : ByteArray), (⟨#[98, 114, 101, 97, 107]⟩ : ByteArray), (⟨#[99, 111, 110, 116, 105, 110, 117, 101]⟩ : ByteArray), (⟨#[114, 101, 116, 117, 114, 110]⟩ : ByteArray), (⟨#[111, 117, 116]⟩ : ByteArray), (⟨#[97, 110, 100]⟩ : ByteArray), (⟨#[111, 114]⟩ : ByteArray), (⟨#[110, 111, 116]⟩ : ByteArray), (⟨#[116, 114, 117, 101]⟩ : ByteArray), (⟨#[102, 97, 108, 115, 101]⟩ : ByteArray), (⟨#[110, 105, 108]⟩ : ByteArray)] : List ByteArray)) := ⟨_, rfl⟩
 replace H : (some y172) = some r := by first | (rw [hy172]; with_reducible exact H) | (have H2_ := (Option.bind_some _ _).symm.trans H; rw [hy172]; with_reducible exact H2_) | (have H2_ := (Option.bind_some _ _).symm.trans H; with_reducible exact H2_) | with_reducible exact H | (rw [hy172]; exact H) | exact H
 have Ny172 := Aside0.mk hy172
 clear hy172
 obtain rfl := Option.some.inj H
 go_enter Tryd.func57, Tryd.ntmps57
 go_wp2_with (first | ((with_reducible refine gate_dst (N := 1) rfl ?_); refine Kd.R_lit Kd.string _ 9 ?hg (N := 1) ?hd (xs := ([(⟨#[102, 110]⟩ : ByteArray), (⟨#[108, 101, 116]⟩ : ByteArray), (⟨#[105, 102]⟩ : ByteArray), (⟨#[101, 108, 115, 101]⟩ : ByteArray), (⟨#[119, 104, 105, 108, 101]⟩ : ByteArray), (⟨#[102, 111, 114]⟩ : ByteArray), (⟨#[105, 110]⟩ : ByteArray), (⟨#[98, 114, 101, 97, 107]⟩ : ByteArray), (⟨#[99, 111, 110, 116, 105, 110, 117, 101]⟩ : ByteArray), (⟨#[114, 101, 116, 117, 114, 110]⟩ : ByteArray), (⟨#[111, 117, 116]⟩ : ByteArray), (⟨#[97, 110, 100]⟩ : ByteArray), (⟨#[111, 114]⟩ : ByteArray), (⟨#[110, 111, 116]⟩ : ByteArray), (⟨#[116, 114, 117, 101]⟩ : ByteArray), (⟨#[102, 97, 108, 115, 101]⟩ : ByteArray), (⟨#[110, 105, 108]⟩ : ByteArray)] : List ByteArray)) (inner := [.string (⟨#[102, 110]⟩ : ByteArray), .string (⟨#[108, 101, 116]⟩ : ByteArray), .string (⟨#[105, 102]⟩ : ByteArray), .string (⟨#[101, 108, 115, 101]⟩ : ByteArray), .string (⟨#[119, 104, 105, 108, 101]⟩ : ByteArray), .string (⟨#[102, 111, 114]⟩ : ByteArray), .string (⟨#[105, 110]⟩ : ByteArray), .string (⟨#[98, 114, 101, 97, 107]⟩ : ByteArray), .string (⟨#[99, 111, 110, 116, 105, 110, 117, 101]⟩ : ByteArray), .string (⟨#[114, 101, 116, 117, 114, 110]⟩ : ByteArray), .string (⟨#[111, 117, 116]⟩ : ByteArray), .string (⟨#[97, 110, 100]⟩ : ByteArray), .string (⟨#[111, 114]⟩ : ByteArray), .string (⟨#[110, 111, 116]⟩ : ByteArray), .string (⟨#[116, 114, 117, 101]⟩ : ByteArray), .string (⟨#[102, 97, 108, 115, 101]⟩ : ByteArray), .string (⟨#[110, 105, 108]⟩ : ByteArray)]) (ok := fun _ => True) (okp := fun _ => True) ?hr ?hp (fun _ hk => hk) trivial (Below.refl _ _) (Nat.le_refl _) (by simp) ?_; (case hd => rfl); (case hg => rfl); (case hr => first | (go_simp; done) | (go_simp; rfl)); (case hp => exact (Reps.one (show Kd.M Kd.string _ _ _ (⟨#[102, 110]⟩ : ByteArray) [.string (⟨#[102, 110]⟩ : ByteArray)] from rfl) (Reps.one (show Kd.M Kd.string _ _ _ (⟨#[108, 101, 116]⟩ : ByteArray) [.string (⟨#[108, 101, 116]⟩ : ByteArray)] from rfl) (Reps.one (show Kd.M Kd.string _ _ _ (⟨#[105, 102]⟩ : ByteArray) [.string (⟨#[105, 102]⟩ : ByteArray)] from rfl) (Reps.one (show Kd.M Kd.string _ _ _ (⟨#[101, 108, 115, 101]⟩ : ByteArray) [.string (⟨#[101, 108, 115, 101]⟩ : ByteArray)] from rfl) (Reps.one (show Kd.M Kd.string _ _ _ (⟨#[119, 104, 105, 108, 101]⟩ : ByteArray) [.string (⟨#[119, 104, 105, 108, 101]⟩ : ByteArray)] from rfl) (Reps.one (show Kd.M Kd.string _ _ _ (⟨#[102, 111, 114]⟩ : ByteArray) [.string (⟨#[102, 111, 114]⟩ : ByteArray)] from rfl) (Reps.one (show Kd.M Kd.string _ _ _ (⟨#[105, 110]⟩ : ByteArray) [.string (⟨#[105, 110]⟩ : ByteArray)] from rfl) (Reps.one (show Kd.M Kd.string _ _ _ (⟨#[98, 114, 101, 97, 107]⟩ : ByteArray) [.string (⟨#[98, 114, 101, 97, 107]⟩ : ByteArray)] from rfl) (Reps.one (show Kd.M Kd.string _ _ _ (⟨#[99, 111, 110, 116, 105, 110, 117, 101]⟩ : ByteArray) [.string (⟨#[99, 111, 110, 116, 105, 110, 117, 101]⟩ : ByteArray)] from rfl) (Reps.one (show Kd.M Kd.string _ _ _ (⟨#[114, 101, 116, 117, 114, 110]⟩ : ByteArray) [.string (⟨#[114, 101, 116, 117, 114, 110]⟩ : ByteArray)] from rfl) (Reps.one (show Kd.M Kd.string _ _ _ (⟨#[111, 117, 116]⟩ : ByteArray) [.string (⟨#[111, 117, 116]⟩ : ByteArray)] from rfl) (Reps.one (show Kd.M Kd.string _ _ _ (⟨#[97, 110, 100]⟩ : ByteArray) [.string (⟨#[97, 110, 100]⟩ : ByteArray)] from rfl) (Reps.one (show Kd.M Kd.string _ _ _ (⟨#[111, 114]⟩ : ByteArray) [.string (⟨#[111, 114]⟩ : ByteArray)] from rfl) (Reps.one (show Kd.M Kd.string _ _ _ (⟨#[110, 111, 116]⟩ : ByteArray) [.string (⟨#[110, 111, 116]⟩ : ByteArray)] from rfl) (Reps.one (show Kd.M Kd.string _ _ _ (⟨#[116, 114, 117, 101]⟩ : ByteArray) [.string (⟨#[116, 114, 117, 101]⟩ : ByteArray)] from rfl) (Reps.one (show Kd.M Kd.string _ _ _ (⟨#[102, 97, 108, 115, 101]⟩ : ByteArray) [.string (⟨#[102, 97, 108, 115, 101]⟩ : ByteArray)] from rfl) (Reps.one (show Kd.M Kd.string _ _ _ (⟨#[110, 105, 108]⟩ : ByteArray) [.string (⟨#[110, 105, 108]⟩ : ByteArray)] from rfl) (Reps.none _ _))))))))))))))))))); intro v173 w1 ho2 hb hg_ hnew_; clear hg_ hnew_; (first | rw [← Ny172.out] at ho2 | (simp only [Int.reduceToNat] at ho2; rw [← Ny172.out] at ho2)); have n0_ := Aside0.mk (Kd.R_lower ho2 (below_size x45_6)); have n1_ := Aside0.mk (below_step x45_6 hb); clear HB; have HO174 := n0_; have HB := n1_; clear n0_ n1_; clear hb ho2))
 go_ret
 exact ⟨_, x45_10, by (with_reducible repeat (first | apply Kd.R_alloc | apply Kd.R_drewN | apply Kd.R_drew)); exact HO174.out, x45_6⟩
def lex_name.j0 : Nat → Int → Bool → Int → Int → ByteArray → Int → Int → Option (Int × Int × ByteArray × Int × Int × Int × Int)
 | 0, _, _, _, _, _, _, _ => none
 | k + 1, x5, x16, x178000, x178001, x178002, x178003, x178004 => if x16 = true then ((numtext_ParseFloat.f k x178002).bind fun bt178 => (some (5, x178001, (⟨#[]⟩ : ByteArray), x178003, bt178.1, x5, 0))) else ((lex_words.f).bind fun t180 => ((slices_Contains_string_string.f k t180 x178002).bind fun t183 => (if t183 = true then (some (2, x178001, x178002, x178003, x178004, x5, 0)) else (some (x178000, x178001, x178002, x178003, x178004, x5, 0)))))
def lex_name.f (k : Nat) (a0 : ByteArray) : Option (Int × Int × ByteArray × Int × Int × Int × Int) := (lex_run.f a0 0 8800000055).bind fun t176 => (if t176 > 31 then (some (0, 0, (⟨#[]⟩ : ByteArray), 0, 0, 0, 63)) else (if 0 ≤ t176 then (if t176 ≤ (a0.size : Int) then (if (a0.extract 0 (t176 : Int).toNat).toList = ([105, 110, 102] : List UInt8) then (lex_name.j0 k t176 true 1 0 (a0.extract 0 (t176 : Int).toNat) 0 0) else (lex_name.j0 k t176 ((a0.extract 0 (t176 : Int).toNat).toList == ([110, 97, 110] : List UInt8)) 1 0 (a0.extract 0 (t176 : Int).toNat) 0 0)) else (none)) else (none)))
set_option maxHeartbeats 8000000 in
set_option maxRecDepth 100000 in
theorem lex_name.calls (k : Nat) (a0 : ByteArray) (r1 : Int) (r2 : Int) (r3 : ByteArray) (r4 : Int) (r5 : Int) (r6 : Int) (r7 : Int) (w : World) (hG : Glob w) (h : lex_name.f k a0 = some (r1, r2, r3, r4, r5, r6, r7)) :
  Calls Tryd.prog 36 #[.string a0] w fun e w' => e = .returned (.tuple #[.agg #[.int .i64 r1, .int .i64 r2, .string r3, .int .i64 r4, .int .u64 r5], .int .i64 r6, .int .i64 r7]) ∧ Below w.heap.size w w' := by
 have HG0 := Aside0.mk hG
 clear hG
 have hu30 := Tryd.underlying30
 have HB := Aside0.mk (Below.refl w.heap.size w)
 have H : ((lex_run.f a0 0 8800000055).bind fun t176 => (if t176 > 31 then (some (0, 0, (⟨#[]⟩ : ByteArray), 0, 0, 0, 63)) else (if 0 ≤ t176 then (if t176 ≤ (a0.size : Int) then (if (a0.extract 0 (t176 : Int).toNat).toList = ([105, 110, 102] : List UInt8) then (lex_name.j0 k t176 true 1 0 (a0.extract 0 (t176 : Int).toNat) 0 0) else (lex_name.j0 k t176 ((a0.extract 0 (t176 : Int).toNat).toList == ([110, 97, 110] : List UInt8)) 1 0 (a0.extract 0 (t176 : Int).toNat) 0 0)) else (none)) else (none)))) = some (r1, r2, r3, r4, r5, r6, r7) := h
 clear h
 obtain ⟨t176, A20, H⟩ := Option.bind_eq_some_iff.mp H
 have A2 := Aside0.mk A20
 clear A20
 by_cases c3 : t176 > 31
 ·rw [if_pos c3] at H
  have c3b0 : decide (31 < t176) = true := decide_eq_true c3
  clear c3
  simp only [Option.some.injEq, Prod.mk.injEq] at H
  obtain ⟨rfl, rfl, rfl, rfl, rfl, rfl, rfl⟩ := H
  go_enter Tryd.func36, Tryd.ntmps36
  go_wp2_with (first | ((with_reducible refine gate_dst (N := 2) rfl ?_); refine box_event ?hg (N := 2) ?hd (cs := #[.int .i64 0, .int .i64 0, .string (⟨#[]⟩ : ByteArray), .int .i64 0, .int .u64 0]) (t := 30) ?hr ?_; (case hd => rfl); (case hg => rfl); (case hr => first | (go_simp; done) | (go_simp; rfl)); intro gb175 hg w4 hbox hb; have n0_ := Aside0.mk (below_step x45_6 hb); have n1_ := Aside0.mk (hbox); have n2_ := Aside0.mk ((by rw [hg]; exact (below_size x45_6) : w.heap.size ≤ gb175)); have n3_ := Aside0.mk ((by rw [hg]; exact (below_size x45_6) : w.heap.size ≤ gb175)); clear HB; have HB := n0_; have BK175 := n1_; have GW175 := n2_; have GE175 := n3_; clear n0_ n1_ n2_ n3_; clear hb hbox hg) | ((with_reducible refine gate_callee (f := 18) rfl ?_); refine goesL_ (some 8) rfl rfl Tryd.func18 (by kernel_rfl) rfl #[.string a0, .int .i64 0, .func (.func 55) #[] #[]] rfl x45_5 ?_; (with_reducible refine (lex_run.calls55 a0 0 t176 _ A2.out).mono ?_); rintro e w' ⟨rfl, ⟨nd, rfl⟩⟩; refine ⟨_, rfl, ?_⟩; (try (rw [drewN_self w4]; generalize hq_ : World.drewN w4 _ = w4; have n0_ : Aside0 (w4.heap[gb175]? = some (.cells #[.int .i64 0, .int .i64 0, .string (⟨#[]⟩ : ByteArray), .int .i64 0, .int .u64 0] 30 (0, 0))) := ⟨x45_7⟩; have n1_ : Aside0 (Below w.heap.size w w4) := ⟨x45_3⟩; clear BK175 HB hq_; have BK175 := n0_; have HB := n1_; clear n0_ n1_)); have hcz5_0 : w4.cell? ⟨gb175, 0, none⟩ = some (.int .i64 0) := (blk_cell BK175.out 0).trans rfl; have hcz5_1 : w4.cell? ⟨gb175, 1, none⟩ = some (.int .i64 0) := (blk_cell BK175.out 1).trans rfl; have hcz5_2 : w4.cell? ⟨gb175, 2, none⟩ = some (.string (⟨#[]⟩ : ByteArray)) := (blk_cell BK175.out 2).trans rfl; have hcz5_3 : w4.cell? ⟨gb175, 3, none⟩ = some (.int .i64 0) := (blk_cell BK175.out 3).trans rfl; have hcz5_4 : w4.cell? ⟨gb175, 4, none⟩ = some (.int .u64 0) := (blk_cell BK175.out 4).trans rfl; have hfz5_0 := blk_frozen BK175.out 0; have hfz5_1 := blk_frozen BK175.out 1; have hfz5_2 := blk_frozen BK175.out 2; have hfz5_3 := blk_frozen BK175.out 3; have hfz5_4 := blk_frozen BK175.out 4))
  refine bodyPost_ret (results_ctt rfl _ _ gb175 30 #[.int .i64 0, .int .i64 0, .string (⟨#[]⟩ : ByteArray), .int .i64 0, .int .u64 0] (0, 0) _ rfl (by (with_reducible repeat first | apply blk_drewN | apply blk_drew | apply blk_alloc); refine blk_put (cs := #[.int .i64 0, .int .i64 0, .string (⟨#[]⟩ : ByteArray), .int .i64 0, .int .u64 0]) ?_ 4 _ rfl; (with_reducible repeat first | apply blk_drewN | apply blk_drew | apply blk_alloc); refine blk_put (cs := #[.int .i64 0, .int .i64 0, .string (⟨#[]⟩ : ByteArray), .int .i64 0, .int .u64 0]) ?_ 3 _ rfl; (with_reducible repeat first | apply blk_drewN | apply blk_drew | apply blk_alloc); refine blk_put (cs := #[.int .i64 0, .int .i64 0, .string (⟨#[]⟩ : ByteArray), .int .i64 0, .int .u64 0]) ?_ 2 _ rfl; (with_reducible repeat first | apply blk_drewN | apply blk_drew | apply blk_alloc); refine blk_put (cs := #[.int .i64 0, .int .i64 0, .string (⟨#[]⟩ : ByteArray), .int .i64 0, .int .u64 0]) ?_ 1 _ rfl; (with_reducible repeat first | apply blk_drewN | apply blk_drew | apply blk_alloc); refine blk_put (cs := #[.int .i64 0, .int .i64 0, .string (⟨#[]⟩ : ByteArray), .int .i64 0, .int .u64 0]) ?_ 0 _ rfl; (with_reducible repeat first | apply blk_drewN | apply blk_drew | apply blk_alloc); exact BK175.out) Tryd.underlying30 rfl (by kernel_rfl)) rfl ?_
  exact ⟨x45_10, x45_4⟩
 ·rw [if_neg c3] at H
  have c3b0 : decide (31 < t176) = false := decide_eq_false c3
  clear c3
  by_cases c6 : 0 ≤ t176
  ·rw [if_pos c6] at H
   have c6b0 := eq_true c6
   have c6b1 := decide_eq_true c6
   clear c6
   by_cases c7 : t176 ≤ (a0.size : Int)
   ·rw [if_pos c7] at H
    have c7b0 := eq_true c7
    have c7b1 := decide_eq_true c7
    clear c7
    have HC8 := Aside0.mk H
    clear H
    go_enter Tryd.func36, Tryd.ntmps36
    go_upto_region 5 with (first | ((with_reducible refine gate_dst (N := 2) rfl ?_); refine box_event ?hg (N := 2) ?hd (cs := #[.int .i64 0, .int .i64 0, .string (⟨#[]⟩ : ByteArray), .int .i64 0, .int .u64 0]) (t := 30) ?hr ?_; (case hd => rfl); (case hg => rfl); (case hr => first | (go_simp; done) | (go_simp; rfl)); intro gb175 hg w9 hbox hb; have n0_ := Aside0.mk (below_step x45_6 hb); have n1_ := Aside0.mk (hbox); have n2_ := Aside0.mk ((by rw [hg]; exact (below_size x45_6) : w.heap.size ≤ gb175)); have n3_ := Aside0.mk ((by rw [hg]; exact (below_size x45_6) : w.heap.size ≤ gb175)); clear HB; have HB := n0_; have BK175 := n1_; have GW175 := n2_; have GE175 := n3_; clear n0_ n1_ n2_ n3_; clear hb hbox hg) | ((with_reducible refine gate_callee (f := 18) rfl ?_); refine goesL_ (some 8) rfl rfl Tryd.func18 (by kernel_rfl) rfl #[.string a0, .int .i64 0, .func (.func 55) #[] #[]] rfl x45_5 ?_; (with_reducible refine (lex_run.calls55 a0 0 t176 _ A2.out).mono ?_); rintro e w' ⟨rfl, ⟨nd, rfl⟩⟩; refine ⟨_, rfl, ?_⟩; (try (rw [drewN_self w9]; generalize hq_ : World.drewN w9 _ = w9; have n0_ : Aside0 (w9.heap[gb175]? = some (.cells #[.int .i64 0, .int .i64 0, .string (⟨#[]⟩ : ByteArray), .int .i64 0, .int .u64 0] 30 (0, 0))) := ⟨x45_7⟩; have n1_ : Aside0 (Below w.heap.size w w9) := ⟨x45_3⟩; clear BK175 HB hq_; have BK175 := n0_; have HB := n1_; clear n0_ n1_))) | ((with_reducible refine gate_dst (N := 6) rfl ?_); refine box_event ?hg (N := 6) ?hd (cs := #[.int .i64 0, .int .i64 0, .string (⟨#[]⟩ : ByteArray), .int .i64 0, .int .u64 0]) (t := 30) ?hr ?_; (case hd => rfl); (case hg => rfl); (case hr => first | (go_simp; done) | (go_simp; rfl)); intro gb177 hg w10 hbox hb; have n0_ := Aside0.mk (blk_below (g := gb175) (o := .cells #[.int .i64 0, .int .i64 0, .string (⟨#[]⟩ : ByteArray), .int .i64 0, .int .u64 0] 30 (0, 0)) x45_8 hb); have n1_ := Aside0.mk (below_step x45_4 hb); have n2_ := Aside0.mk (hbox); have n3_ := Aside0.mk ((by rw [hg]; exact (below_size x45_4) : w.heap.size ≤ gb177)); have n4_ := Aside0.mk ((by rw [hg]; exact (below_size x45_4) : w.heap.size ≤ gb177)); have n5_ := Aside0.mk ((by rw [hg]; exact Nat.ne_of_lt (blk_lt (g := gb175) (o := .cells #[.int .i64 0, .int .i64 0, .string (⟨#[]⟩ : ByteArray), .int .i64 0, .int .u64 0] 30 (0, 0)) x45_8) : gb175 ≠ gb177)); have n6_ := Aside0.mk ((by rw [hg]; exact Nat.ne_of_gt (blk_lt (g := gb175) (o := .cells #[.int .i64 0, .int .i64 0, .string (⟨#[]⟩ : ByteArray), .int .i64 0, .int .u64 0] 30 (0, 0)) x45_8) : gb177 ≠ gb175)); clear BK175; clear HB; have BK175 := n0_; have HB := n1_; have BK177 := n2_; have GW177 := n3_; have GE177 := n4_; have NB175_177 := n5_; have NB177_175 := n6_; clear n0_ n1_ n2_ n3_ n4_ n5_ n6_; clear hb hbox hg; have hnb11 := NB177_175.out; have hnc11 := NB175_177.out; have hcz12_0 : w10.cell? ⟨gb177, 0, none⟩ = some (.int .i64 0) := (blk_cell BK177.out 0).trans rfl; have hcz12_1 : w10.cell? ⟨gb177, 1, none⟩ = some (.int .i64 0) := (blk_cell BK177.out 1).trans rfl; have hcz12_2 : w10.cell? ⟨gb177, 2, none⟩ = some (.string (⟨#[]⟩ : ByteArray)) := (blk_cell BK177.out 2).trans rfl; have hcz12_3 : w10.cell? ⟨gb177, 3, none⟩ = some (.int .i64 0) := (blk_cell BK177.out 3).trans rfl; have hcz12_4 : w10.cell? ⟨gb177, 4, none⟩ = some (.int .u64 0) := (blk_cell BK177.out 4).trans rfl; have hfz12_0 := blk_frozen BK177.out 0; have hfz12_1 := blk_frozen BK177.out 1; have hfz12_2 := blk_frozen BK177.out 2; have hfz12_3 := blk_frozen BK177.out 3; have hfz12_4 := blk_frozen BK177.out 4))
    (try simp only [Act.put, List.setIfInBounds_toArray, List.set_cons_zero, List.set_cons_succ])
    go_cut [16] (fun v16 wc => ∃ (kq : Nat) (x16_7 : Bool), v16 = .bool x16_7 ∧ Aside0 (lex_name.j0 kq t176 x16_7 1 0 (a0.extract 0 (t176 : Int).toNat) 0 0 = some (r1, r2, r3, r4, r5, r6, r7)) ∧ Aside0 (kq ≤ k) ∧ Aside0 (wc.heap[gb175]? = some (.cells #[.int .i64 0, .int .i64 0, .string (⟨#[]⟩ : ByteArray), .int .i64 0, .int .u64 0] 30 (0, 0))) ∧ Aside0 (wc.heap[gb177]? = some (.cells #[.int .i64 1, .int .i64 0, .string (a0.extract 0 (t176 : Int).toNat), .int .i64 0, .int .u64 0] 30 (0, 0))) ∧ Aside0 (Below w.heap.size w wc))
    case first =>
     have H := HC8.out
     clear HC8
     by_cases c13 : (a0.extract 0 (t176 : Int).toNat).toList = ([105, 110, 102] : List UInt8)
     ·rw [if_pos c13] at H
      have c13b0 := beq_iff_eq.mpr c13
      have c13b1 := bne_eq_false_iff_eq.mpr c13
      clear c13
      (first | rw [c13b0] | (simp only [i64_w, i32_w]; rw [c13b0]) | skip)
      have H' := Aside0.mk H
      clear H
      have hnb14 := NB177_175.out
      have hnc14 := NB175_177.out
      have hcz15_0 : w10.cell? ⟨gb177, 0, none⟩ = some (.int .i64 0) := (blk_cell BK177.out 0).trans rfl
      have hcz15_1 : w10.cell? ⟨gb177, 1, none⟩ = some (.int .i64 0) := (blk_cell BK177.out 1).trans rfl
      have hcz15_2 : w10.cell? ⟨gb177, 2, none⟩ = some (.string (⟨#[]⟩ : ByteArray)) := (blk_cell BK177.out 2).trans rfl
      have hcz15_3 : w10.cell? ⟨gb177, 3, none⟩ = some (.int .i64 0) := (blk_cell BK177.out 3).trans rfl
      have hcz15_4 : w10.cell? ⟨gb177, 4, none⟩ = some (.int .u64 0) := (blk_cell BK177.out 4).trans rfl
      have hfz15_0 := blk_frozen BK177.out 0
      have hfz15_1 := blk_frozen BK177.out 1
      have hfz15_2 := blk_frozen BK177.out 2
      have hfz15_3 := blk_frozen BK177.out 3
      have hfz15_4 := blk_frozen BK177.out 4
      go_wp2
      go_meet
      case rel => exact ⟨_, (true), x45_13, H', ⟨by first | omega | exact Nat.le_refl _⟩, ⟨x45_1⟩, ⟨x45_0⟩, ⟨x45_2⟩⟩
     ·rw [if_neg c13] at H
      have c13b0 := beq_eq_false_iff_ne.mpr c13
      have c13b1 := bne_iff_ne.mpr c13
      (first | rw [c13b0] | (simp only [i64_w, i32_w]; rw [c13b0]) | skip)
      have H' := Aside0.mk H
      clear H
      have hnb16 := NB177_175.out
      have hnc16 := NB175_177.out
      have hcz17_0 : w10.cell? ⟨gb177, 0, none⟩ = some (.int .i64 0) := (blk_cell BK177.out 0).trans rfl
      have hcz17_1 : w10.cell? ⟨gb177, 1, none⟩ = some (.int .i64 0) := (blk_cell BK177.out 1).trans rfl
      have hcz17_2 : w10.cell? ⟨gb177, 2, none⟩ = some (.string (⟨#[]⟩ : ByteArray)) := (blk_cell BK177.out 2).trans rfl
      have hcz17_3 : w10.cell? ⟨gb177, 3, none⟩ = some (.int .i64 0) := (blk_cell BK177.out 3).trans rfl
      have hcz17_4 : w10.cell? ⟨gb177, 4, none⟩ = some (.int .u64 0) := (blk_cell BK177.out 4).trans rfl
      have hfz17_0 := blk_frozen BK177.out 0
      have hfz17_1 := blk_frozen BK177.out 1
      have hfz17_2 := blk_frozen BK177.out 2
      have hfz17_3 := blk_frozen BK177.out 3
      have hfz17_4 := blk_frozen BK177.out 4
      go_wp2
      go_meet
      case rel => exact ⟨_, (((a0.extract 0 (t176 : Int).toNat).toList == ([110, 97, 110] : List UInt8))), x45_13, H', ⟨by first | omega | exact Nat.le_refl _⟩, ⟨x45_1⟩, ⟨x45_0⟩, ⟨x45_2⟩⟩
    case rest =>
     clear HC8
     obtain ⟨kq, x16_7, rfl, HA, HJ7, BK175, BK177, HB⟩ := hcut
     cases kq with
     | zero => exact absurd HA.out (by simp [lex_name.j0])
     | succ kj7 =>
      have H := HA.out
      clear HA
      simp only [lex_name.j0] at H
      by_cases c18 : x16_7 = true
      ·subst c18
       rw [if_pos rfl] at H
       replace H := Option.bind_eq_some_iff.mp H
       obtain ⟨⟨t178, t179⟩, A190, H⟩ := H
       replace H : (some (5, 0, (⟨#[]⟩ : ByteArray), 0, t178, t176, 0)) = some (r1, r2, r3, r4, r5, r6, r7) := H
       have A19 := Aside0.mk A190
       clear A190
       simp only [Option.some.injEq, Prod.mk.injEq] at H
       obtain ⟨rfl, rfl, rfl, rfl, rfl, rfl, rfl⟩ := H
       have hnb20 := NB177_175.out
       have hnc20 := NB175_177.out
       have hcz21_0 : wc.cell? ⟨gb177, 0, none⟩ = some (.int .i64 1) := (blk_cell BK177.out 0).trans rfl
       have hcz21_1 : wc.cell? ⟨gb177, 1, none⟩ = some (.int .i64 0) := (blk_cell BK177.out 1).trans rfl
       have hcz21_2 : wc.cell? ⟨gb177, 2, none⟩ = some (.string (a0.extract 0 (t176 : Int).toNat)) := (blk_cell BK177.out 2).trans rfl
       have hcz21_3 : wc.cell? ⟨gb177, 3, none⟩ = some (.int .i64 0) := (blk_cell BK177.out 3).trans rfl
       have hcz21_4 : wc.cell? ⟨gb177, 4, none⟩ = some (.int .u64 0) := (blk_cell BK177.out 4).trans rfl
       have hfz21_0 := blk_frozen BK177.out 0
       have hfz21_1 := blk_frozen BK177.out 1
       have hfz21_2 := blk_frozen BK177.out 2
       have hfz21_3 := blk_frozen BK177.out 3
       have hfz21_4 := blk_frozen BK177.out 4
       go_wp2_with (first | ((with_reducible refine gate_callee (f := 14) rfl ?_); refine goesL_ (some 29) rfl rfl Tryd.func14 (by kernel_rfl) rfl #[.string (a0.extract 0 (t176 : Int).toNat)] rfl x45_5 ?_; (with_reducible refine (numtext_ParseFloat.calls (hG := (by first | exact Glob.at_ HG0.out x45_2 | exact Glob.at_ HG0.out (Below.refl _ _))) kj7 (a0.extract 0 (t176 : Int).toNat) t178 t179 _ A19.out).mono ?_); rintro e w22 ⟨rfl, hb⟩; refine ⟨_, rfl, ?_⟩; have n0_ := Aside0.mk (blk_below (g := gb175) (o := .cells #[.int .i64 0, .int .i64 0, .string (⟨#[]⟩ : ByteArray), .int .i64 0, .int .u64 0] 30 (0, 0)) (by (with_reducible repeat first | apply blk_drewN | apply blk_drew | apply blk_alloc); refine blk_far ?_ NB175_177.out _; (with_reducible repeat first | apply blk_drewN | apply blk_drew | apply blk_alloc); exact BK175.out) hb); have n1_ := Aside0.mk (blk_below (g := gb177) (o := .cells #[.int .i64 5, .int .i64 0, .string (a0.extract 0 (t176 : Int).toNat), .int .i64 0, .int .u64 0] 30 (0, 0)) (by (with_reducible repeat first | apply blk_drewN | apply blk_drew | apply blk_alloc); refine blk_put (cs := #[.int .i64 1, .int .i64 0, .string (a0.extract 0 (t176 : Int).toNat), .int .i64 0, .int .u64 0]) ?_ 0 _ rfl; (with_reducible repeat first | apply blk_drewN | apply blk_drew | apply blk_alloc); exact BK177.out) hb); have n2_ := Aside0.mk (below_step x45_2 hb); clear BK175; clear BK177; clear HB; have BK175 := n0_; have BK177 := n1_; have HB := n2_; clear n0_ n1_ n2_; have hcz23_0 : w22.cell? ⟨gb177, 0, none⟩ = some (.int .i64 5) := (blk_cell BK177.out 0).trans rfl; have hcz23_1 : w22.cell? ⟨gb177, 1, none⟩ = some (.int .i64 0) := (blk_cell BK177.out 1).trans rfl; have hcz23_2 : w22.cell? ⟨gb177, 2, none⟩ = some (.string (a0.extract 0 (t176 : Int).toNat)) := (blk_cell BK177.out 2).trans rfl; have hcz23_3 : w22.cell? ⟨gb177, 3, none⟩ = some (.int .i64 0) := (blk_cell BK177.out 3).trans rfl; have hcz23_4 : w22.cell? ⟨gb177, 4, none⟩ = some (.int .u64 0) := (blk_cell BK177.out 4).trans rfl; have hfz23_0 := blk_frozen BK177.out 0; have hfz23_1 := blk_frozen BK177.out 1; have hfz23_2 := blk_frozen BK177.out 2; have hfz23_3 := blk_frozen BK177.out 3; have hfz23_4 := blk_frozen BK177.out 4; have hcz24_0 : w22.cell? ⟨gb175, 0, none⟩ = some (.int .i64 0) := (blk_cell BK175.out 0).trans rfl; have hcz24_1 : w22.cell? ⟨gb175, 1, none⟩ = some (.int .i64 0) := (blk_cell BK175.out 1).trans rfl; have hcz24_2 : w22.cell? ⟨gb175, 2, none⟩ = some (.string (⟨#[]⟩ : ByteArray)) := (blk_cell BK175.out 2).trans rfl; have hcz24_3 : w22.cell? ⟨gb175, 3, none⟩ = some (.int .i64 0) := (blk_cell BK175.out 3).trans rfl; have hcz24_4 : w22.cell? ⟨gb175, 4, none⟩ = some (.int .u64 0) := (blk_cell BK175.out 4).trans rfl; have hfz24_0 := blk_frozen BK175.out 0; have hfz24_1 := blk_frozen BK175.out 1; have hfz24_2 := blk_frozen BK175.out 2; have hfz24_3 := blk_frozen BK175.out 3; have hfz24_4 := blk_frozen BK175.out 4))
       refine bodyPost_ret (results_ctt rfl _ _ gb175 30 #[.int .i64 5, .int .i64 0, .string (⟨#[]⟩ : ByteArray), .int .i64 0, .int .u64 t178] (0, 0) _ rfl (by (with_reducible repeat first | apply blk_drewN | apply blk_drew | apply blk_alloc); refine blk_put (cs := #[.int .i64 5, .int .i64 0, .string (⟨#[]⟩ : ByteArray), .int .i64 0, .int .u64 0]) ?_ 4 _ rfl; (with_reducible repeat first | apply blk_drewN | apply blk_drew | apply blk_alloc); refine blk_put (cs := #[.int .i64 5, .int .i64 0, .string (⟨#[]⟩ : ByteArray), .int .i64 0, .int .u64 0]) ?_ 3 _ rfl; (with_reducible repeat first | apply blk_drewN | apply blk_drew | apply blk_alloc); refine blk_put (cs := #[.int .i64 5, .int .i64 0, .string (⟨#[]⟩ : ByteArray), .int .i64 0, .int .u64 0]) ?_ 2 _ rfl; (with_reducible repeat first | apply blk_drewN | apply blk_drew | apply blk_alloc); refine blk_put (cs := #[.int .i64 5, .int .i64 0, .string (⟨#[]⟩ : ByteArray), .int .i64 0, .int .u64 0]) ?_ 1 _ rfl; (with_reducible repeat first | apply blk_drewN | apply blk_drew | apply blk_alloc); refine blk_put (cs := #[.int .i64 0, .int .i64 0, .string (⟨#[]⟩ : ByteArray), .int .i64 0, .int .u64 0]) ?_ 0 _ rfl; (with_reducible repeat first | apply blk_drewN | apply blk_drew | apply blk_alloc); refine blk_far ?_ NB175_177.out _; (with_reducible repeat first | apply blk_drewN | apply blk_drew | apply blk_alloc); refine blk_far ?_ NB175_177.out _; (with_reducible repeat first | apply blk_drewN | apply blk_drew | apply blk_alloc); exact BK175.out) Tryd.underlying30 rfl (by kernel_rfl)) rfl ?_
       exact ⟨x45_10, x45_2⟩
      ·replace c18 := Bool.eq_false_iff.mpr c18
       subst c18
       rw [if_neg (show ¬ (false = true) by decide)] at H
       obtain ⟨t180, A250, H⟩ := Option.bind_eq_some_iff.mp H
       have A25 := Aside0.mk A250
       clear A250
       obtain ⟨t183, A260, H⟩ := Option.bind_eq_some_iff.mp H
       have A26 := Aside0.mk A260
       clear A260
       by_cases c27 : t183 = true
       ·subst c27
        rw [if_pos rfl] at H
        simp only [Option.some.injEq, Prod.mk.injEq] at H
        obtain ⟨rfl, rfl, rfl, rfl, rfl, rfl, rfl⟩ := H
        try go_wp2
        have n0_ := Aside0.mk (blk_drew BK175.out)
        have n1_ := Aside0.mk (blk_drew BK177.out)
        have n2_ := Aside0.mk (below_drew1 HB.out)
        clear BK175
        clear BK177
        clear HB
        have BK175 := n0_
        have BK177 := n1_
        have HB := n2_
        clear n0_ n1_ n2_
        refine start_ (n := 5) (S := fun w' => w'.cell? ⟨gb177, 0, none⟩ = some (.int .i64 1) ∧ w'.cell? ⟨gb177, 1, none⟩ = some (.int .i64 0) ∧ w'.cell? ⟨gb177, 2, none⟩ = some (.string (a0.extract 0 (t176 : Int).toNat)) ∧ w'.cell? ⟨gb177, 3, none⟩ = some (.int .i64 0) ∧ w'.cell? ⟨gb177, 4, none⟩ = some (.int .u64 0)) (ds := []) #[false, false, false, false, false] (by kernel_rfl) rfl rfl ⟨(blk_cell BK177.out 0).trans rfl, (blk_cell BK177.out 1).trans rfl, (blk_cell BK177.out 2).trans rfl, (blk_cell BK177.out 3).trans rfl, (blk_cell BK177.out 4).trans rfl⟩ (fun hHeld => ?_)
        generalize wc.drew = w28 at BK175 BK177 HB hHeld ⊢
        refine pure_ (i := 1) (N := some 36) (v := ?_) (a' := ?_) #[false, true, false, false, false] rfl rfl (by kernel_rfl) (fun _ _ _ h => h) (Or.inl ⟨by rfl, ?_⟩) ?_ ?_
        rotate_left
        ·intro w'
         go_simp
         with_reducible rfl
        rotate_left
        ·simp only [Act.put, List.setIfInBounds_toArray, List.set_cons_zero, List.set_cons_succ, i64_w, i32_w]
         rfl
        refine take_ (i := 2) (N := some 37) (v := ?_) (a' := ?_) #[false, true, true, false, false] rfl rfl (by kernel_rfl) (fun _ _ _ h => h) (Or.inl ⟨by rfl, ?_⟩) hHeld ?_ ?_
        rotate_left
        ·rintro w' ⟨s0, s1, s2, s3, s4⟩
         go_simp
         with_reducible rfl
        rotate_left
        ·simp only [Act.put, List.setIfInBounds_toArray, List.set_cons_zero, List.set_cons_succ, i64_w, i32_w]
         rfl
        refine one_ (i := 0) (N := some 35) #[true, true, true, false, false] rfl rfl (by kernel_rfl) (by decide) (fun K hK => ?_)
        refine goes_ Tryd.func57 (by kernel_rfl) rfl #[] (by rfl) rfl rfl x45_5 ?_
        with_reducible refine (lex_words.calls  t180 _ A25.out).mono ?_
        rintro e w29 ⟨v181, rfl, ho0, hb⟩
        refine ⟨_, rfl, ?_⟩
        have n0_ := Aside0.mk (Kd.R_lower ho0 (below_size x45_2))
        have n1_ := Aside0.mk (blk_below (g := gb175) (o := .cells #[.int .i64 0, .int .i64 0, .string (⟨#[]⟩ : ByteArray), .int .i64 0, .int .u64 0] 30 (0, 0)) x45_8 hb)
        have n2_ := Aside0.mk (blk_below (g := gb177) (o := .cells #[.int .i64 1, .int .i64 0, .string (a0.extract 0 (t176 : Int).toNat), .int .i64 0, .int .u64 0] 30 (0, 0)) x45_9 hb)
        have n3_ := Aside0.mk (below_step x45_2 hb)
        clear BK175
        clear BK177
        clear HB
        have HO182 := n0_
        have BK175 := n1_
        have BK177 := n2_
        have HB := n3_
        clear n0_ n1_ n2_ n3_
        (try clear hb)
        (try clear hb2)
        (try clear hk)
        (try clear hi)
        (try clear ho0)
        obtain ⟨Ao30, co30, eo30⟩ := Kd.R_slice HO182.out
        (first | subst eo30 | (injection eo30 with f1_ f2_ f3_; have f4_ := f1_.symm; have f5_ := f3_.symm; clear f1_ f2_ f3_; subst f4_; subst f5_))
        refine hK.out _ _ ⟨(blk_cell BK177.out 0).trans rfl, (blk_cell BK177.out 1).trans rfl, (blk_cell BK177.out 2).trans rfl, (blk_cell BK177.out 3).trans rfl, (blk_cell BK177.out 4).trans rfl⟩ (fun hHeld => ?_)
        clear hK K
        refine norm_ (a' := ?_) ?_ ?_
        rotate_left
        ·show Act.put _ (some 35) _ = _
         simp only [Act.put, List.setIfInBounds_toArray, List.set_cons_zero, List.set_cons_succ, i64_w, i32_w]
         rfl
        refine one_ (i := 3) (N := some 38) #[true, true, true, true, false] rfl rfl (by kernel_rfl) (by decide) (fun K hK => ?_)
        refine goes_ Tryd.func56 (by kernel_rfl) rfl #[.slice Ao30 t180.length co30, .string (a0.extract 0 (t176 : Int).toNat)] (by rfl) rfl rfl x45_5 ?_
        with_reducible refine (slices_Contains_string_string.calls kj7 _ _ t180 (a0.extract 0 (t176 : Int).toNat) true _ ?side1 ?side2 A26.out).mono ?_
        (case side1 => repeat (first | exact (Kd.R_reads' HO182.out).2.2 | (with_reducible refine Kd.C_alloc ?_ _) | (with_reducible refine Kd.C_drewN ?_ _) | (with_reducible refine Kd.C_drew ?_)))
        (case side2 => exact (Kd.R_reads' HO182.out).2.1)
        rintro e w' ⟨rfl, ⟨nd, rfl⟩⟩
        refine ⟨_, rfl, ?_⟩
        refine hK.out _ _ ⟨(blk_cell BK177.out 0).trans rfl, (blk_cell BK177.out 1).trans rfl, (blk_cell BK177.out 2).trans rfl, (blk_cell BK177.out 3).trans rfl, (blk_cell BK177.out 4).trans rfl⟩ (fun hHeld => ?_)
        clear hK K
        refine norm_ (a' := ?_) ?_ ?_
        rotate_left
        ·show Act.put _ (some 38) _ = _
         simp only [Act.put, List.setIfInBounds_toArray, List.set_cons_zero, List.set_cons_succ, i64_w, i32_w]
         rfl
        refine pure_ (i := 4) (N := some 34) (v := ?_) (a' := ?_) #[true, true, true, true, true] rfl rfl (by kernel_rfl) (fun _ _ _ h => h) (Or.inl ⟨by rfl, ?_⟩) ?_ ?_
        rotate_left
        ·intro w'
         go_simp
         with_reducible rfl
        rotate_left
        ·simp only [Act.put, List.setIfInBounds_toArray, List.set_cons_zero, List.set_cons_succ, i64_w, i32_w]
         rfl
        refine done_ (by kernel_rfl) ?_
        have hnb31 := NB177_175.out
        have hnc31 := NB175_177.out
        have hcz32_0 : w29.cell? ⟨gb177, 0, none⟩ = some (.int .i64 1) := (blk_cell BK177.out 0).trans rfl
        have hcz32_1 : w29.cell? ⟨gb177, 1, none⟩ = some (.int .i64 0) := (blk_cell BK177.out 1).trans rfl
        have hcz32_2 : w29.cell? ⟨gb177, 2, none⟩ = some (.string (a0.extract 0 (t176 : Int).toNat)) := (blk_cell BK177.out 2).trans rfl
        have hcz32_3 : w29.cell? ⟨gb177, 3, none⟩ = some (.int .i64 0) := (blk_cell BK177.out 3).trans rfl
        have hcz32_4 : w29.cell? ⟨gb177, 4, none⟩ = some (.int .u64 0) := (blk_cell BK177.out 4).trans rfl
        have hfz32_0 := blk_frozen BK177.out 0
        have hfz32_1 := blk_frozen BK177.out 1
        have hfz32_2 := blk_frozen BK177.out 2
        have hfz32_3 := blk_frozen BK177.out 3
        have hfz32_4 := blk_frozen BK177.out 4
        have hcz33_0 : w29.cell? ⟨gb175, 0, none⟩ = some (.int .i64 0) := (blk_cell BK175.out 0).trans rfl
        have hcz33_1 : w29.cell? ⟨gb175, 1, none⟩ = some (.int .i64 0) := (blk_cell BK175.out 1).trans rfl
        have hcz33_2 : w29.cell? ⟨gb175, 2, none⟩ = some (.string (⟨#[]⟩ : ByteArray)) := (blk_cell BK175.out 2).trans rfl
        have hcz33_3 : w29.cell? ⟨gb175, 3, none⟩ = some (.int .i64 0) := (blk_cell BK175.out 3).trans rfl
        have hcz33_4 : w29.cell? ⟨gb175, 4, none⟩ = some (.int .u64 0) := (blk_cell BK175.out 4).trans rfl
        have hfz33_0 := blk_frozen BK175.out 0
        have hfz33_1 := blk_frozen BK175.out 1
        have hfz33_2 := blk_frozen BK175.out 2
        have hfz33_3 := blk_frozen BK175.out 3
        have hfz33_4 := blk_frozen BK175.out 4
        try go_wp2
        refine bodyPost_ret (results_ctt rfl _ _ gb175 30 #[.int .i64 2, .int .i64 0, .string (a0.extract 0 (t176 : Int).toNat), .int .i64 0, .int .u64 0] (0, 0) _ rfl (by (with_reducible repeat first | apply blk_drewN | apply blk_drew | apply blk_alloc); refine blk_put (cs := #[.int .i64 2, .int .i64 0, .string (a0.extract 0 (t176 : Int).toNat), .int .i64 0, .int .u64 0]) ?_ 4 _ rfl; (with_reducible repeat first | apply blk_drewN | apply blk_drew | apply blk_alloc); refine blk_put (cs := #[.int .i64 2, .int .i64 0, .string (a0.extract 0 (t176 : Int).toNat), .int .i64 0, .int .u64 0]) ?_ 3 _ rfl; (with_reducible repeat first | apply blk_drewN | apply blk_drew | apply blk_alloc); refine blk_put (cs := #[.int .i64 2, .int .i64 0, .string (⟨#[]⟩ : ByteArray), .int .i64 0, .int .u64 0]) ?_ 2 _ rfl; (with_reducible repeat first | apply blk_drewN | apply blk_drew | apply blk_alloc); refine blk_put (cs := #[.int .i64 2, .int .i64 0, .string (⟨#[]⟩ : ByteArray), .int .i64 0, .int .u64 0]) ?_ 1 _ rfl; (with_reducible repeat first | apply blk_drewN | apply blk_drew | apply blk_alloc); refine blk_put (cs := #[.int .i64 0, .int .i64 0, .string (⟨#[]⟩ : ByteArray), .int .i64 0, .int .u64 0]) ?_ 0 _ rfl; (with_reducible repeat first | apply blk_drewN | apply blk_drew | apply blk_alloc); refine blk_far ?_ NB175_177.out _; (with_reducible repeat first | apply blk_drewN | apply blk_drew | apply blk_alloc); exact BK175.out) Tryd.underlying30 rfl (by kernel_rfl)) rfl ?_
        exact ⟨x45_10, x45_2⟩
       ·replace c27 := Bool.eq_false_iff.mpr c27
        subst c27
        rw [if_neg (show ¬ (false = true) by decide)] at H
        simp only [Option.some.injEq, Prod.mk.injEq] at H
        obtain ⟨rfl, rfl, rfl, rfl, rfl, rfl, rfl⟩ := H
        try go_wp2
        have n0_ := Aside0.mk (blk_drew BK175.out)
        have n1_ := Aside0.mk (blk_drew BK177.out)
        have n2_ := Aside0.mk (below_drew1 HB.out)
        clear BK175
        clear BK177
        clear HB
        have BK175 := n0_
        have BK177 := n1_
        have HB := n2_
        clear n0_ n1_ n2_
        refine start_ (n := 5) (S := fun w' => w'.cell? ⟨gb177, 0, none⟩ = some (.int .i64 1) ∧ w'.cell? ⟨gb177, 1, none⟩ = some (.int .i64 0) ∧ w'.cell? ⟨gb177, 2, none⟩ = some (.string (a0.extract 0 (t176 : Int).toNat)) ∧ w'.cell? ⟨gb177, 3, none⟩ = some (.int .i64 0) ∧ w'.cell? ⟨gb177, 4, none⟩ = some (.int .u64 0)) (ds := []) #[false, false, false, false, false] (by kernel_rfl) rfl rfl ⟨(blk_cell BK177.out 0).trans rfl, (blk_cell BK177.out 1).trans rfl, (blk_cell BK177.out 2).trans rfl, (blk_cell BK177.out 3).trans rfl, (blk_cell BK177.out 4).trans rfl⟩ (fun hHeld => ?_)
        generalize wc.drew = w34 at BK175 BK177 HB hHeld ⊢
        refine pure_ (i := 1) (N := some 36) (v := ?_) (a' := ?_) #[false, true, false, false, false] rfl rfl (by kernel_rfl) (fun _ _ _ h => h) (Or.inl ⟨by rfl, ?_⟩) ?_ ?_
        rotate_left
        ·intro w'
         go_simp
         with_reducible rfl
        rotate_left
        ·simp only [Act.put, List.setIfInBounds_toArray, List.set_cons_zero, List.set_cons_succ, i64_w, i32_w]
         rfl
        refine take_ (i := 2) (N := some 37) (v := ?_) (a' := ?_) #[false, true, true, false, false] rfl rfl (by kernel_rfl) (fun _ _ _ h => h) (Or.inl ⟨by rfl, ?_⟩) hHeld ?_ ?_
        rotate_left
        ·rintro w' ⟨s0, s1, s2, s3, s4⟩
         go_simp
         with_reducible rfl
        rotate_left
        ·simp only [Act.put, List.setIfInBounds_toArray, List.set_cons_zero, List.set_cons_succ, i64_w, i32_w]
         rfl
        refine one_ (i := 0) (N := some 35) #[true, true, true, false, false] rfl rfl (by kernel_rfl) (by decide) (fun K hK => ?_)
        refine goes_ Tryd.func57 (by kernel_rfl) rfl #[] (by rfl) rfl rfl x45_5 ?_
        with_reducible refine (lex_words.calls  t180 _ A25.out).mono ?_
        rintro e w35 ⟨v181, rfl, ho0, hb⟩
        refine ⟨_, rfl, ?_⟩
        have n0_ := Aside0.mk (Kd.R_lower ho0 (below_size x45_2))
        have n1_ := Aside0.mk (blk_below (g := gb175) (o := .cells #[.int .i64 0, .int .i64 0, .string (⟨#[]⟩ : ByteArray), .int .i64 0, .int .u64 0] 30 (0, 0)) x45_8 hb)
        have n2_ := Aside0.mk (blk_below (g := gb177) (o := .cells #[.int .i64 1, .int .i64 0, .string (a0.extract 0 (t176 : Int).toNat), .int .i64 0, .int .u64 0] 30 (0, 0)) x45_9 hb)
        have n3_ := Aside0.mk (below_step x45_2 hb)
        clear BK175
        clear BK177
        clear HB
        have HO182 := n0_
        have BK175 := n1_
        have BK177 := n2_
        have HB := n3_
        clear n0_ n1_ n2_ n3_
        (try clear hb)
        (try clear hb2)
        (try clear hk)
        (try clear hi)
        (try clear ho0)
        obtain ⟨Ao36, co36, eo36⟩ := Kd.R_slice HO182.out
        (first | subst eo36 | (injection eo36 with f1_ f2_ f3_; have f4_ := f1_.symm; have f5_ := f3_.symm; clear f1_ f2_ f3_; subst f4_; subst f5_))
        refine hK.out _ _ ⟨(blk_cell BK177.out 0).trans rfl, (blk_cell BK177.out 1).trans rfl, (blk_cell BK177.out 2).trans rfl, (blk_cell BK177.out 3).trans rfl, (blk_cell BK177.out 4).trans rfl⟩ (fun hHeld => ?_)
        clear hK K
        refine norm_ (a' := ?_) ?_ ?_
        rotate_left
        ·show Act.put _ (some 35) _ = _
         simp only [Act.put, List.setIfInBounds_toArray, List.set_cons_zero, List.set_cons_succ, i64_w, i32_w]
         rfl
        refine one_ (i := 3) (N := some 38) #[true, true, true, true, false] rfl rfl (by kernel_rfl) (by decide) (fun K hK => ?_)
        refine goes_ Tryd.func56 (by kernel_rfl) rfl #[.slice Ao36 t180.length co36, .string (a0.extract 0 (t176 : Int).toNat)] (by rfl) rfl rfl x45_5 ?_
        with_reducible refine (slices_Contains_string_string.calls kj7 _ _ t180 (a0.extract 0 (t176 : Int).toNat) false _ ?side1 ?side2 A26.out).mono ?_
        (case side1 => repeat (first | exact (Kd.R_reads' HO182.out).2.2 | (with_reducible refine Kd.C_alloc ?_ _) | (with_reducible refine Kd.C_drewN ?_ _) | (with_reducible refine Kd.C_drew ?_)))
        (case side2 => exact (Kd.R_reads' HO182.out).2.1)
        rintro e w' ⟨rfl, ⟨nd, rfl⟩⟩
        refine ⟨_, rfl, ?_⟩
        refine hK.out _ _ ⟨(blk_cell BK177.out 0).trans rfl, (blk_cell BK177.out 1).trans rfl, (blk_cell BK177.out 2).trans rfl, (blk_cell BK177.out 3).trans rfl, (blk_cell BK177.out 4).trans rfl⟩ (fun hHeld => ?_)
        clear hK K
        refine norm_ (a' := ?_) ?_ ?_
        rotate_left
        ·show Act.put _ (some 38) _ = _
         simp only [Act.put, List.setIfInBounds_toArray, List.set_cons_zero, List.set_cons_succ, i64_w, i32_w]
         rfl
        refine pure_ (i := 4) (N := some 34) (v := ?_) (a' := ?_) #[true, true, true, true, true] rfl rfl (by kernel_rfl) (fun _ _ _ h => h) (Or.inl ⟨by rfl, ?_⟩) ?_ ?_
        rotate_left
        ·intro w'
         go_simp
         with_reducible rfl
        rotate_left
        ·simp only [Act.put, List.setIfInBounds_toArray, List.set_cons_zero, List.set_cons_succ, i64_w, i32_w]
         rfl
        refine done_ (by kernel_rfl) ?_
        have hnb37 := NB177_175.out
        have hnc37 := NB175_177.out
        have hcz38_0 : w35.cell? ⟨gb177, 0, none⟩ = some (.int .i64 1) := (blk_cell BK177.out 0).trans rfl
        have hcz38_1 : w35.cell? ⟨gb177, 1, none⟩ = some (.int .i64 0) := (blk_cell BK177.out 1).trans rfl
        have hcz38_2 : w35.cell? ⟨gb177, 2, none⟩ = some (.string (a0.extract 0 (t176 : Int).toNat)) := (blk_cell BK177.out 2).trans rfl
        have hcz38_3 : w35.cell? ⟨gb177, 3, none⟩ = some (.int .i64 0) := (blk_cell BK177.out 3).trans rfl
        have hcz38_4 : w35.cell? ⟨gb177, 4, none⟩ = some (.int .u64 0) := (blk_cell BK177.out 4).trans rfl
        have hfz38_0 := blk_frozen BK177.out 0
        have hfz38_1 := blk_frozen BK177.out 1
        have hfz38_2 := blk_frozen BK177.out 2
        have hfz38_3 := blk_frozen BK177.out 3
        have hfz38_4 := blk_frozen BK177.out 4
        have hcz39_0 : w35.cell? ⟨gb175, 0, none⟩ = some (.int .i64 0) := (blk_cell BK175.out 0).trans rfl
        have hcz39_1 : w35.cell? ⟨gb175, 1, none⟩ = some (.int .i64 0) := (blk_cell BK175.out 1).trans rfl
        have hcz39_2 : w35.cell? ⟨gb175, 2, none⟩ = some (.string (⟨#[]⟩ : ByteArray)) := (blk_cell BK175.out 2).trans rfl
        have hcz39_3 : w35.cell? ⟨gb175, 3, none⟩ = some (.int .i64 0) := (blk_cell BK175.out 3).trans rfl
        have hcz39_4 : w35.cell? ⟨gb175, 4, none⟩ = some (.int .u64 0) := (blk_cell BK175.out 4).trans rfl
        have hfz39_0 := blk_frozen BK175.out 0
        have hfz39_1 := blk_frozen BK175.out 1
        have hfz39_2 := blk_frozen BK175.out 2
        have hfz39_3 := blk_frozen BK175.out 3
        have hfz39_4 := blk_frozen BK175.out 4
        try go_wp2
        refine bodyPost_ret (results_ctt rfl _ _ gb175 30 #[.int .i64 1, .int .i64 0, .string (a0.extract 0 (t176 : Int).toNat), .int .i64 0, .int .u64 0] (0, 0) _ rfl (by (with_reducible repeat first | apply blk_drewN | apply blk_drew | apply blk_alloc); refine blk_put (cs := #[.int .i64 1, .int .i64 0, .string (a0.extract 0 (t176 : Int).toNat), .int .i64 0, .int .u64 0]) ?_ 4 _ rfl; (with_reducible repeat first | apply blk_drewN | apply blk_drew | apply blk_alloc); refine blk_put (cs := #[.int .i64 1, .int .i64 0, .string (a0.extract 0 (t176 : Int).toNat), .int .i64 0, .int .u64 0]) ?_ 3 _ rfl; (with_reducible repeat first | apply blk_drewN | apply blk_drew | apply blk_alloc); refine blk_put (cs := #[.int .i64 1, .int .i64 0, .string (⟨#[]⟩ : ByteArray), .int .i64 0, .int .u64 0]) ?_ 2 _ rfl; (with_reducible repeat first | apply blk_drewN | apply blk_drew | apply blk_alloc); refine blk_put (cs := #[.int .i64 1, .int .i64 0, .string (⟨#[]⟩ : ByteArray), .int .i64 0, .int .u64 0]) ?_ 1 _ rfl; (with_reducible repeat first | apply blk_drewN | apply blk_drew | apply blk_alloc); refine blk_put (cs := #[.int .i64 0, .int .i64 0, .string (⟨#[]⟩ : ByteArray), .int .i64 0, .int .u64 0]) ?_ 0 _ rfl; (with_reducible repeat first | apply blk_drewN | apply blk_drew | apply blk_alloc); exact BK175.out) Tryd.underlying30 rfl (by kernel_rfl)) rfl ?_
        exact ⟨x45_10, x45_2⟩
   ·rw [if_neg c7] at H
    exact absurd H (by simp)
  ·rw [if_neg c6] at H
   exact absurd H (by simp)
end Go.Proofs.YtjolkombhdibcaaDoor.Print
end
section
namespace Go.Proofs.YtjolkombhdibcaaDoor.Sp
open Go.RowKit Go.Proofs.YtjolkombhdibcaaDoorW.PrintWords Go.Proofs.YtjolkombhdibcaaDoorW.PrintMore Go.Proofs.YtjolkombhdibcaaDoor.Given Go.Proofs.YtjolkombhdibcaaDoor.Print
set_option linter.unusedVariables false
set_option linter.unusedSimpArgs false
abbrev T7 := Int × Int × ByteArray × Int × Int × Int × Int
def tok (kind : Int) (text : List UInt8) (i b : Int) (n : Int) : T7 := (kind, 0, bs text, i, b, n, 0)
def bad (e : Int) : T7 := (0, 0, bs [], 0, 0, 0, e)
def wordsL : List (List UInt8) := [[102, 110], [108, 101, 116], [105, 102], [101, 108, 115, 101], [119, 104, 105, 108, 101], [102, 111, 114], [105, 110], [98, 114, 101, 97, 107], [99, 111, 110, 116, 105, 110, 117, 101], [114, 101, 116, 117, 114, 110], [111, 117, 116], [97, 110, 100], [111, 114], [110, 111, 116], [116, 114, 117, 101], [102, 97, 108, 115, 101], [110, 105, 108]]
def marksL : List (List UInt8) := [[61, 61], [33, 61], [60, 61], [62, 61], [60, 60], [62, 62], [47, 47], [46, 46], [43], [45], [42], [47], [37], [38], [124], [94], [126], [60], [62], [61], [40], [41], [123], [125], [91], [93], [44], [59], [58]]
def nameT (t : List UInt8) : T7 :=
  if 31 < t.length then bad 63
  else if t = [105, 110, 102] ∨ t = [110, 97, 110] then tok 5 [] 0 (pfS t).1 t.length
  else if t ∈ wordsL then tok 2 t 0 0 t.length
  else tok 1 t 0 0 t.length
def floatTok (t : List UInt8) : T7 := if (pfS t).2 = 0 then tok 5 [] 0 (pfS t).1 t.length else bad 62
def wholeTok (t : List UInt8) : T7 := if (parseIntT t).2 = 0 then tok 4 [] (parseIntT t).1 0 t.length else bad 62
theorem bs_take (l : List UInt8) (n : Nat) : (bs l).extract 0 n = bs (l.take n) := by rw [bs_ext, List.drop_zero]
theorem runN_le (p : UInt8 → Bool) (l : List UInt8) : Given.runN p l ≤ l.length := by
  unfold Given.runN
  exact (List.takeWhile_sublist p).length_le
theorem run_f (l : List UInt8) (a : Nat) (g : Int) (h : a ≤ l.length) (hl : l.length ≤ 1000000) : lex_run.f (bs l) (a : Int) g = some ((Given.runN (runF g) (l.drop a) : Nat) : Int) := by
  unfold lex_run.f
  rw [bs_size, if_pos ⟨by omega, by omega, by unfold maxLen; omega⟩, Int.toNat_natCast]
theorem take_run (p : UInt8 → Bool) (l : List UInt8) : l.take (Given.runN p l) = l.takeWhile p := by
  unfold Given.runN
  induction l with
  | nil => rfl
  | cons c r ih =>
    rw [List.takeWhile_cons]
    split
    · rw [List.length_cons, List.take_succ_cons, ih]
    · rfl
theorem idx_l0 (ws : List (List UInt8)) (t : List UInt8) (hw : ws.length ≤ 1000) : ∀ (r p : List (List UInt8)), ws = p ++ r → t ∉ p →
    ∃ q : Int, Ev (fun k => slices_Index_string_string.l0 k (ws.map bs) (bs t) (ws.length : Int) (p.length : Int)) q ∧ (0 ≤ q ↔ t ∈ ws) := by
  intro r
  induction r with
  | nil =>
    intro p h hp
    rw [List.append_nil] at h
    subst h
    refine ⟨-1, ?_, by simp [hp]⟩
    refine Ev.step (fun k => by rw [slices_Index_string_string.l0]) ?_
    exact Ev.no (by omega) (Ev.ret rfl)
  | cons c r ih =>
    intro p h hp
    have hlen : ws.length = p.length + (r.length + 1) := by rw [h]; simp
    have e1 : rdOf ByteArray.empty (ws.map bs) (p.length : Int) = bs c := by
      unfold rdOf
      rw [Int.toNat_natCast, h]
      simp [List.getD_eq_getElem?_getD]
    by_cases hc : t = c
    · refine ⟨p.length, ?_, by subst hc; rw [h]; simp⟩
      refine Ev.step (fun k => by rw [slices_Index_string_string.l0]) ?_
      refine Ev.yes (by omega) (Ev.yes (by omega) (Ev.yes (by rw [List.length_map]; omega) ?_))
      rw [e1]
      simp only [bs_toList]
      exact Ev.yes hc (Ev.ret rfl)
    · obtain ⟨q, h1, h2⟩ := ih (p ++ [c]) (by rw [h]; simp) (by simp [hp, hc])
      refine ⟨q, ?_, h2⟩
      refine Ev.step (fun k => by rw [slices_Index_string_string.l0]) ?_
      refine Ev.yes (by omega) (Ev.yes (by omega) (Ev.yes (by rw [List.length_map]; omega) ?_))
      rw [e1, w64 (by omega) (by omega)]
      simp only [bs_toList]
      refine Ev.no hc ?_
      have e2 : ((p ++ [c]).length : Int) = (p.length : Int) + 1 := by simp
      rw [e2] at h1
      exact h1
theorem contains_ev (t : List UInt8) : Ev (fun k => slices_Contains_string_string.f k (wordsL.map bs) (bs t)) (decide (t ∈ wordsL)) := by
  obtain ⟨q, h1, h2⟩ := idx_l0 wordsL t (by decide) wordsL [] rfl (by simp)
  unfold slices_Contains_string_string.f
  refine Ev.bind (a := q) ?_ (Ev.ret ?_)
  · unfold slices_Index_string_string.f
    rw [List.length_map]
    exact h1
  · rw [decide_eq_decide]; exact h2
theorem words_f : lex_words.f = some (wordsL.map bs) := rfl
theorem name_j0 (t : List UInt8) (ht : t.length ≤ 31) : Ev (fun k => lex_name.j0 k (t.length : Int) (decide (t = [105, 110, 102] ∨ t = [110, 97, 110])) 1 0 (bs t) 0 0) (nameT t) := by
  refine Ev.step (fun k => by rw [lex_name.j0]) ?_
  unfold nameT
  rw [if_neg (by omega)]
  by_cases h : t = [105, 110, 102] ∨ t = [110, 97, 110]
  · rw [if_pos h]
    exact Ev.yes (decide_eq_true h) (Ev.bind (parseFloat_ev t (by omega)) (Ev.ret rfl))
  · rw [if_neg h]
    refine Ev.no (by simpa using h) (Ev.bind0 words_f (Ev.bind (contains_ev t) ?_))
    by_cases hw : t ∈ wordsL
    · rw [if_pos hw]; exact Ev.yes (decide_eq_true hw) (Ev.ret rfl)
    · rw [if_neg hw]; exact Ev.no (by simpa using hw) (Ev.ret rfl)
theorem name_ev (l : List UInt8) (hl : l.length ≤ 1000000) : Ev (fun k => lex_name.f k (bs l)) (nameT (l.takeWhile nameB)) := by
  unfold lex_name.f
  have hr := run_f l 0 8800000055 (by omega) hl
  rw [List.drop_zero] at hr
  refine Ev.bind0 hr ?_
  have hrun : runF 8800000055 = nameB := rfl
  rw [hrun]
  have hle := runN_le nameB l
  have htl : (l.takeWhile nameB).length = Given.runN nameB l := rfl
  have htk := take_run nameB l
  by_cases h : 31 < Given.runN nameB l
  · have : nameT (l.takeWhile nameB) = bad 63 := by unfold nameT; rw [if_pos (by omega)]
    rw [this]
    exact Ev.yes (by omega) (Ev.ret rfl)
  · refine Ev.no (by omega) (Ev.yes (by omega) (Ev.yes (by rw [bs_size]; omega) ?_))
    have hj := name_j0 (l.takeWhile nameB) (by omega)
    rw [htl] at hj
    rw [Int.toNat_natCast, bs_take, htk, bs_toList]
    by_cases h1 : l.takeWhile nameB = [105, 110, 102]
    · rw [decide_eq_true (.inl h1)] at hj
      exact Ev.yes h1 hj
    · refine Ev.no h1 ?_
      have e : decide (l.takeWhile nameB = [105, 110, 102] ∨ l.takeWhile nameB = [110, 97, 110]) = (l.takeWhile nameB == [110, 97, 110]) := by
        by_cases h2 : l.takeWhile nameB = [110, 97, 110]
        · rw [decide_eq_true (.inr h2), beq_iff_eq.2 h2]
        · rw [decide_eq_false (fun h => h.elim h1 h2), beq_eq_false_iff_ne.2 h2]
      rw [e] at hj
      exact hj
end Go.Proofs.YtjolkombhdibcaaDoor.Sp
end
section
namespace Go.Proofs.YtjolkombhdibcaaDoor.Print
open Go.RowKit Go.Proofs.YtjolkombhdibcaaDoor.Given Go.Proofs.YtjolkombhdibcaaDoorW.PrintWords Go.Proofs.YtjolkombhdibcaaDoorW.PrintLast Go.Proofs.YtjolkombhdibcaaDoorW.PrintMore
attribute [local go_sem] max2_int min2_int max_two min_two max_three min_three max_four min_four
set_option linter.unusedVariables false
set_option linter.unusedSimpArgs false
theorem x47_0 {p : Prop} (h : p := by (try simp only [List.map_toArray, List.map_cons, List.map_nil]); first | done | rfl | (simp only [List.length_drop, List.length_take]; rfl)) : p := h
def lex_value.f (a0 : Int) : Option (Int) := (lex_digit.f a0).bind fun t152 => (if t152 = true then (some ((a0 - 48) % 256)) else (some ((((a0 - 97) % 256) + 10) % 256)))
set_option maxHeartbeats 8000000 in
set_option maxRecDepth 100000 in
theorem lex_value.calls (a0 : Int) (r : Int) (w : World) (h : lex_value.f a0 = some r) :
  Calls Tryd.prog 62 #[.int .u8 a0] w fun e w' => e = .returned (.int .u8 r) ∧ Drawn0 w w' := by
 have H : ((lex_digit.f a0).bind fun t152 => (if t152 = true then (some ((a0 - 48) % 256)) else (some ((((a0 - 97) % 256) + 10) % 256)))) = some r := h
 clear h
 obtain ⟨t152, A20, H⟩ := Option.bind_eq_some_iff.mp H
 have A2 := Aside0.mk A20
 clear A20
 by_cases c3 : t152 = true
 ·subst c3
  rw [if_pos rfl] at H
  obtain rfl := Option.some.inj H
  go_enter Tryd.func62, Tryd.ntmps62
  go_wp2_with (first | ((with_reducible refine gate_callee (f := 39) rfl ?_); refine goesL_ (some 4) rfl rfl Tryd.func39 (by kernel_rfl) rfl #[.int .u8 a0] rfl x47_0 ?_; (with_reducible refine (lex_digit.calls a0 true _ A2.out).mono ?_); rintro e w' ⟨rfl, ⟨nd, rfl⟩⟩; refine ⟨_, rfl, ?_⟩))
  go_ret
  exact ⟨by first | rfl | (simp; done) | (simp [*]; done), by repeat (first | exact Drawn0.refl _ | apply Drawn0.step)⟩
 ·replace c3 := Bool.eq_false_iff.mpr c3
  subst c3
  rw [if_neg (show ¬ (false = true) by decide)] at H
  obtain rfl := Option.some.inj H
  go_enter Tryd.func62, Tryd.ntmps62
  go_wp2_with (first | ((with_reducible refine gate_callee (f := 39) rfl ?_); refine goesL_ (some 4) rfl rfl Tryd.func39 (by kernel_rfl) rfl #[.int .u8 a0] rfl x47_0 ?_; (with_reducible refine (lex_digit.calls a0 false _ A2.out).mono ?_); rintro e w' ⟨rfl, ⟨nd, rfl⟩⟩; refine ⟨_, rfl, ?_⟩))
  go_ret
  exact ⟨by first | rfl | (simp; done) | (simp [*]; done), by repeat (first | exact Drawn0.refl _ | apply Drawn0.step)⟩
end Go.Proofs.YtjolkombhdibcaaDoor.Print
end
