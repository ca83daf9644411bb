/- Texts packed together: CShelfA IShelf. -/
import Derived.Shelf.Strings.Builder1
import Derived.Shelf.Strings.Builder2
import Derived.Shelf.Strings.OnBuilder
import Derived.Shelf.Strings.BuilderF
import Derived.Shelf.Strings.BuilderK
import Derived.Shelf.Utf8.RuneCount
import Derived.Shelf.Strings.Builder2Cap
import Derived.Shelf.Strconv.Atoi
import Derived.Shelf.Strconv.Itoa0
import Derived.Shelf.Strconv.Itoa1
import Derived.Shelf.LaysM
import Derived.Shelf.Strconv.Itoa2
import Derived.Shelf.Strconv.Itoa3
import Derived.Shelf.Strconv.AtoiErrFast
import Derived.Shelf.Strconv.ParseIntEmpty
import Derived.Shelf.Strconv.AtoiFail
import Derived.Shelf.Strconv.Clone
import Derived.Shelf.Strconv.SyntaxError
import Derived.Shelf.LaysC
import Derived.Shelf.Strconv.ToError
import Derived.Shelf.Strconv.AtoiErr
import Derived.Shelf.Strconv.Lower
import Derived.Shelf.Strconv.ParseUint10
import Derived.Shelf.Strconv.ParseUint10Empty
import Derived.Shelf.Strconv.ParseUint10Any
import Derived.Shelf.Strconv.ParseInt10
import Derived.Shelf.Strconv.AtoiLong
import Derived.Shelf.Strconv.AtoiInnerAll
import Derived.Shelf.Strconv.RangeError
import Derived.Shelf.Strconv.ToErrorRange
import Derived.Shelf.Strconv.AtoiAll
import Derived.Shelf.Strconv.ParseUintEmpty
import Derived.Shelf.Strconv.ParseUint10b64
import Derived.Shelf.Strconv.ParseUint10b32
import Derived.Shelf.Strconv.ParseUint10b16
import Derived.Shelf.Strconv.ParseUint10b8
import Derived.Shelf.Strconv.ParseUint10At
import Derived.Shelf.Strconv.ParseInt10At64
import Derived.Shelf.Strconv.ParseInt10At32
import Derived.Shelf.Strconv.ParseInt10At16
import Derived.Shelf.Strconv.ParseInt10At8
import Derived.Shelf.Strings.Search1
import Derived.Shelf.Strings.Search2
import Derived.Shelf.Strings.Search3
import Derived.Shelf.Strings.Cut
import Derived.Shelf.Strings.Count
import Derived.Shelf.Strings.Shaped
import Derived.Shelf.Strings.Split
import Derived.Shelf.Strings.SplitShaped
import Derived.Shelf.Unicode.Decode
import Derived.Shelf.Strings.RuneCount
import Derived.Shelf.Strings.Explode
import Derived.Shelf.Unicode.DecodeSlow
import Derived.Shelf.Unicode.DecodeAny
import Derived.Shelf.Strings.BuilderCap
import Derived.Test.YtkoomfldnbpndaaDoorProg
import Derived.Test.YtkoomfldnbpndaaDoorZ17
section
/- Contracts of Go's library at this program: laid by the kit's shelf. -/
set_option linter.unusedVariables false
set_option linter.unusedSimpArgs false
namespace Go.Proofs.YtkoomfldnbpndaaDoor
open Go.Proofs Go.Shelf
set_option linter.unusedVariables false
def Shelf.lays156_ren : Go.Shelf.Ren := ⟨fun | 156 => 20 | 165 => 29 | 166 => 30 | 169 => 31 | 240 => 40 | 241 => 41 | 276 => 55 | 277 => 56 | n => n, fun | 31 => 37 | 9 => 9 | 3 => 3 | 4 => 4 | 0 => 0 | 20 => 20 | 72 => 58 | 76 => 53 | 70 => 55 | 37 => 56 | 75 => 52 | 127 => 66 | 164 => 83 | 5 => 5 | 80 => 60 | n => n, fun | n => n⟩
theorem Shelf.lays156 : Go.Proofs.Lays.n156 Tryd.prog Shelf.lays156_ren := {
  mixed := by kernel_rfl
  f156 := Tryd.func20.trans (congrArg some (by kernel_rfl))
  f165 := Tryd.func29.trans (congrArg some (by kernel_rfl))
  f166 := Tryd.func30.trans (congrArg some (by kernel_rfl))
  f169 := Tryd.func31.trans (congrArg some (by kernel_rfl))
  f240 := Tryd.func40.trans (congrArg some (by kernel_rfl))
  f241 := Tryd.func41.trans (congrArg some (by kernel_rfl))
  f276 := Tryd.func55.trans (congrArg some (by kernel_rfl))
  f277 := Tryd.func56.trans (congrArg some (by kernel_rfl))
  t0 := Tryd.underlying0
  a0 := Tryd.isAgg0
  z0 := Tryd.sizeOf0
  v0 := Tryd.zeroValue0
  t3 := Tryd.underlying3
  a3 := Tryd.isAgg3
  z3 := Tryd.sizeOf3
  v3 := Tryd.zeroValue3
  t4 := Tryd.underlying4
  a4 := Tryd.isAgg4
  z4 := Tryd.sizeOf4
  v4 := Tryd.zeroValue4
  t9 := Tryd.underlying9
  a9 := Tryd.isAgg9
  z9 := Tryd.sizeOf9
  v9 := Tryd.zeroValue9
  t20 := Tryd.underlying20
  a20 := Tryd.isAgg20
  z20 := Tryd.sizeOf20
  v20 := Tryd.zeroValue20
  t31 := Tryd.underlying37
  a31 := Tryd.isAgg37
  z31 := Tryd.sizeOf37
  v31 := Tryd.zeroValue37
  t37 := Tryd.underlying56
  a37 := Tryd.isAgg56
  z37 := Tryd.sizeOf56
  v37 := Tryd.zeroValue56
  t70 := Tryd.underlying55
  a70 := Tryd.isAgg55
  z70 := Tryd.sizeOf55
  v70 := Tryd.zeroValue55
  t72 := Tryd.underlying58
  a72 := Tryd.isAgg58
  z72 := Tryd.sizeOf58
  v72 := Tryd.zeroValue58
  t75 := Tryd.underlying52
  a75 := Tryd.isAgg52
  z75 := Tryd.sizeOf52
  v75 := Tryd.zeroValue52
  t76 := Tryd.underlying53
  a76 := Tryd.isAgg53
  z76 := Tryd.sizeOf53
  v76 := Tryd.zeroValue53
  t127 := Tryd.underlying66
  a127 := Tryd.isAgg66
  z127 := Tryd.sizeOf66
  v127 := Tryd.zeroValue66
  t164 := Tryd.underlying83
  a164 := Tryd.isAgg83
  z164 := Tryd.sizeOf83
  v164 := Tryd.zeroValue83 }
theorem Shelf.Builder_Extra_156 : Builder.Extra Tryd.prog Shelf.lays156_ren := {
  sizeBuilder := by kernel_rfl
  liesBuilder := by kernel_rfl
  t5 := Tryd.underlying5
  a5 := Tryd.isAgg5
  z5 := Tryd.sizeOf5
  v5 := Tryd.zeroValue5
  infoByte := by kernel_rfl
  cellsByte := by kernel_rfl
  sizeByte := by kernel_rfl
  neB5 := by decide }
open Go.RowKit in
theorem Shelf.strings_Join (bk o c : Nat) (xs : List ByteArray) (sep : ByteArray) (w : World) (hcells : ∀ (j : Nat) x, xs[j]? = some x → w.cell? ⟨bk, o + j, none⟩ = some (.string x)) (hbk : bk < w.heap.size) (hN : xs.length ≤ 140737488355328) (hcap : xs.length ≤ c) (hlen : (Lib.join (xs.map (·.data.toList)) sep.data.toList).length ≤ 140737488355328) :
    Calls Tryd.prog 20 #[.slice (some ⟨bk, o, none⟩) xs.length c, .string sep] w fun e w' => e = .returned (.string ⟨(Lib.join (xs.map (·.data.toList)) sep.data.toList).toArray⟩) ∧ Below w.heap.size w w' := Any.strings_Join Shelf.lays156 Shelf.Builder_Extra_156 bk o c xs sep w hcells hbk hN hcap hlen
def Shelf.laysM171_ren : Go.Shelf.Ren := ⟨fun | 171 => 19 | 243 => 28 | 246 => 39 | 283 => 51 | 284 => 52 | 285 => 53 | 286 => 54 | 129 => 66 | 317 => 65 | 318 => 67 | 319 => 68 | 320 => 69 | 337 => 74 | 338 => 75 | n => n, fun | 3 => 3 | 9 => 9 | 2 => 2 | 4 => 4 | 171 => 77 | 0 => 0 | 53 => 78 | 37 => 56 | 5 => 5 | 173 => 81 | 212 => 94 | 51 => 22 | 20 => 20 | 213 => 95 | 46 => 41 | 232 => 109 | 233 => 110 | n => n, fun | 17 => 3 | 18 => 6 | 19 => 7 | n => n⟩
theorem Shelf.laysM171 : Go.Proofs.LaysM.n171 Tryd.prog Shelf.laysM171_ren := {
  mixed := by kernel_rfl
  f129 := Tryd.func66.trans (congrArg some (by kernel_rfl))
  f171 := Tryd.func19.trans (congrArg some (by kernel_rfl))
  f243 := Tryd.func28.trans (congrArg some (by kernel_rfl))
  f246 := Tryd.func39.trans (congrArg some (by kernel_rfl))
  f283 := Tryd.func51.trans (congrArg some (by kernel_rfl))
  f284 := Tryd.func52.trans (congrArg some (by kernel_rfl))
  f285 := Tryd.func53.trans (congrArg some (by kernel_rfl))
  f286 := Tryd.func54.trans (congrArg some (by kernel_rfl))
  f317 := Tryd.func65.trans (congrArg some (by kernel_rfl))
  f318 := Tryd.func67.trans (congrArg some (by kernel_rfl))
  f319 := Tryd.func68.trans (congrArg some (by kernel_rfl))
  f320 := Tryd.func69.trans (congrArg some (by kernel_rfl))
  f337 := Tryd.func74.trans (congrArg some (by kernel_rfl))
  f338 := Tryd.func75.trans (congrArg some (by kernel_rfl))
  t0 := Tryd.underlying0
  a0 := Tryd.isAgg0
  z0 := Tryd.sizeOf0
  v0 := Tryd.zeroValue0
  t2 := Tryd.underlying2
  a2 := Tryd.isAgg2
  z2 := Tryd.sizeOf2
  v2 := Tryd.zeroValue2
  t3 := Tryd.underlying3
  a3 := Tryd.isAgg3
  z3 := Tryd.sizeOf3
  v3 := Tryd.zeroValue3
  t4 := Tryd.underlying4
  a4 := Tryd.isAgg4
  z4 := Tryd.sizeOf4
  v4 := Tryd.zeroValue4
  t5 := Tryd.underlying5
  a5 := Tryd.isAgg5
  z5 := Tryd.sizeOf5
  v5 := Tryd.zeroValue5
  t9 := Tryd.underlying9
  a9 := Tryd.isAgg9
  z9 := Tryd.sizeOf9
  v9 := Tryd.zeroValue9
  t20 := Tryd.underlying20
  a20 := Tryd.isAgg20
  z20 := Tryd.sizeOf20
  v20 := Tryd.zeroValue20
  t37 := Tryd.underlying56
  a37 := Tryd.isAgg56
  z37 := Tryd.sizeOf56
  v37 := Tryd.zeroValue56
  t46 := Tryd.underlying41
  a46 := Tryd.isAgg41
  z46 := Tryd.sizeOf41
  v46 := Tryd.zeroValue41
  t51 := Tryd.underlying22
  a51 := Tryd.isAgg22
  z51 := Tryd.sizeOf22
  v51 := Tryd.zeroValue22
  t53 := Tryd.underlying78
  a53 := Tryd.isAgg78
  z53 := Tryd.sizeOf78
  v53 := Tryd.zeroValue78
  t171 := Tryd.underlying77
  a171 := Tryd.isAgg77
  z171 := Tryd.sizeOf77
  v171 := Tryd.zeroValue77
  t173 := Tryd.underlying81
  a173 := Tryd.isAgg81
  z173 := Tryd.sizeOf81
  v173 := Tryd.zeroValue81
  t212 := Tryd.underlying94
  a212 := Tryd.isAgg94
  z212 := Tryd.sizeOf94
  v212 := Tryd.zeroValue94
  t213 := Tryd.underlying95
  a213 := Tryd.isAgg95
  z213 := Tryd.sizeOf95
  t232 := Tryd.underlying109
  a232 := Tryd.isAgg109
  z232 := Tryd.sizeOf109
  v232 := Tryd.zeroValue109
  t233 := Tryd.underlying110
  a233 := Tryd.isAgg110
  z233 := Tryd.sizeOf110
  v233 := Tryd.zeroValue110
  g17 := by kernel_rfl
  g18 := by kernel_rfl
  g19 := by kernel_rfl
  i0 := by kernel_rfl
  i2 := by kernel_rfl
  i3 := by kernel_rfl
  i4 := by kernel_rfl
  i5 := by kernel_rfl
  i9 := by kernel_rfl
  i20 := by kernel_rfl
  i37 := by kernel_rfl
  i46 := by kernel_rfl
  i51 := by kernel_rfl
  i53 := by kernel_rfl
  i171 := by kernel_rfl
  i173 := by kernel_rfl
  i212 := by kernel_rfl
  i232 := by kernel_rfl
  i233 := by kernel_rfl
  m17 := by kernel_rfl
  m18 := by kernel_rfl
  m19 := by kernel_rfl }
open Go.RowKit Go.Sort Go.Lib in
theorem Shelf.strconv_Itoa (n : Int) (h0 : -9223372036854775808 ≤ n) (h1 : n ≤ 9223372036854775807) (w : World) (htab : Lib.TabIs Tryd.prog w "internal/strconv.uint64pow10" .u64 Lib.pow10Tab) :
    Calls Tryd.prog 19 #[.int .i64 n] w fun e w' => e = .returned (.string ⟨(Lib.itoa n).toArray⟩) ∧ ∃ k os, w' = grow (w.drewN k) os := Any.strconv_Itoa Shelf.laysM171 n h0 h1 w htab
def Shelf.laysC172_ren : Go.Shelf.Ren := ⟨fun | 172 => 27 | 244 => 37 | 245 => 38 | 247 => 46 | 279 => 47 | 280 => 48 | 281 => 49 | 282 => 50 | 287 => 62 | 316 => 63 | 171 => 19 | 205 => 64 | 321 => 72 | 322 => 73 | 243 => 28 | 246 => 39 | 283 => 51 | 284 => 52 | 285 => 53 | 286 => 54 | 129 => 66 | 317 => 65 | 318 => 67 | 319 => 68 | 320 => 69 | 337 => 74 | 338 => 75 | n => n, fun | 9 => 9 | 3 => 3 | 75 => 52 | 76 => 53 | 4 => 4 | 5 => 5 | 167 => 71 | 37 => 56 | 0 => 0 | 85 => 72 | 2 => 2 | 168 => 74 | 53 => 78 | 175 => 87 | 46 => 41 | 210 => 91 | 127 => 66 | 145 => 108 | 143 => 106 | 21 => 21 | 171 => 77 | 173 => 81 | 212 => 94 | 51 => 22 | 20 => 20 | 213 => 95 | 232 => 109 | 233 => 110 | 80 => 60 | n => n, fun | 15 => 1 | 16 => 2 | 17 => 3 | 18 => 6 | 19 => 7 | n => n⟩
theorem Shelf.laysC172 : Go.Proofs.LaysC.n172 Tryd.prog Shelf.laysC172_ren := {
  mixed := by kernel_rfl
  f129 := Tryd.func66.trans (congrArg some (by kernel_rfl))
  f171 := Tryd.func19.trans (congrArg some (by kernel_rfl))
  f172 := Tryd.func27.trans (congrArg some (by kernel_rfl))
  f205 := Tryd.func64.trans (congrArg some (by kernel_rfl))
  f243 := Tryd.func28.trans (congrArg some (by kernel_rfl))
  f244 := Tryd.func37.trans (congrArg some (by kernel_rfl))
  f245 := Tryd.func38.trans (congrArg some (by kernel_rfl))
  f246 := Tryd.func39.trans (congrArg some (by kernel_rfl))
  f247 := Tryd.func46.trans (congrArg some (by kernel_rfl))
  f279 := Tryd.func47.trans (congrArg some (by kernel_rfl))
  f280 := Tryd.func48.trans (congrArg some (by kernel_rfl))
  f281 := Tryd.func49.trans (congrArg some (by kernel_rfl))
  f282 := Tryd.func50.trans (congrArg some (by kernel_rfl))
  f283 := Tryd.func51.trans (congrArg some (by kernel_rfl))
  f284 := Tryd.func52.trans (congrArg some (by kernel_rfl))
  f285 := Tryd.func53.trans (congrArg some (by kernel_rfl))
  f286 := Tryd.func54.trans (congrArg some (by kernel_rfl))
  f287 := Tryd.func62.trans (congrArg some (by kernel_rfl))
  f316 := Tryd.func63.trans (congrArg some (by kernel_rfl))
  f317 := Tryd.func65.trans (congrArg some (by kernel_rfl))
  f318 := Tryd.func67.trans (congrArg some (by kernel_rfl))
  f319 := Tryd.func68.trans (congrArg some (by kernel_rfl))
  f320 := Tryd.func69.trans (congrArg some (by kernel_rfl))
  f321 := Tryd.func72.trans (congrArg some (by kernel_rfl))
  f322 := Tryd.func73.trans (congrArg some (by kernel_rfl))
  f337 := Tryd.func74.trans (congrArg some (by kernel_rfl))
  f338 := Tryd.func75.trans (congrArg some (by kernel_rfl))
  t0 := Tryd.underlying0
  a0 := Tryd.isAgg0
  z0 := Tryd.sizeOf0
  v0 := Tryd.zeroValue0
  t2 := Tryd.underlying2
  a2 := Tryd.isAgg2
  z2 := Tryd.sizeOf2
  v2 := Tryd.zeroValue2
  t3 := Tryd.underlying3
  a3 := Tryd.isAgg3
  z3 := Tryd.sizeOf3
  v3 := Tryd.zeroValue3
  t4 := Tryd.underlying4
  a4 := Tryd.isAgg4
  z4 := Tryd.sizeOf4
  v4 := Tryd.zeroValue4
  t5 := Tryd.underlying5
  a5 := Tryd.isAgg5
  z5 := Tryd.sizeOf5
  v5 := Tryd.zeroValue5
  t9 := Tryd.underlying9
  a9 := Tryd.isAgg9
  z9 := Tryd.sizeOf9
  v9 := Tryd.zeroValue9
  t20 := Tryd.underlying20
  a20 := Tryd.isAgg20
  z20 := Tryd.sizeOf20
  v20 := Tryd.zeroValue20
  t21 := Tryd.underlying21
  a21 := Tryd.isAgg21
  z21 := Tryd.sizeOf21
  v21 := Tryd.zeroValue21
  t37 := Tryd.underlying56
  a37 := Tryd.isAgg56
  z37 := Tryd.sizeOf56
  v37 := Tryd.zeroValue56
  t46 := Tryd.underlying41
  a46 := Tryd.isAgg41
  z46 := Tryd.sizeOf41
  v46 := Tryd.zeroValue41
  t51 := Tryd.underlying22
  a51 := Tryd.isAgg22
  z51 := Tryd.sizeOf22
  v51 := Tryd.zeroValue22
  t53 := Tryd.underlying78
  a53 := Tryd.isAgg78
  z53 := Tryd.sizeOf78
  v53 := Tryd.zeroValue78
  t75 := Tryd.underlying52
  a75 := Tryd.isAgg52
  z75 := Tryd.sizeOf52
  v75 := Tryd.zeroValue52
  t76 := Tryd.underlying53
  a76 := Tryd.isAgg53
  z76 := Tryd.sizeOf53
  v76 := Tryd.zeroValue53
  t85 := Tryd.underlying72
  a85 := Tryd.isAgg72
  z85 := Tryd.sizeOf72
  v85 := Tryd.zeroValue72
  t127 := Tryd.underlying66
  a127 := Tryd.isAgg66
  z127 := Tryd.sizeOf66
  v127 := Tryd.zeroValue66
  t143 := Tryd.underlying106
  a143 := Tryd.isAgg106
  z143 := Tryd.sizeOf106
  v143 := Tryd.zeroValue106
  t145 := Tryd.underlying108
  a145 := Tryd.isAgg108
  z145 := Tryd.sizeOf108
  v145 := Tryd.zeroValue108
  t167 := Tryd.underlying71
  a167 := Tryd.isAgg71
  z167 := Tryd.sizeOf71
  v167 := Tryd.zeroValue71
  t168 := Tryd.underlying74
  a168 := Tryd.isAgg74
  z168 := Tryd.sizeOf74
  v168 := Tryd.zeroValue74
  t171 := Tryd.underlying77
  a171 := Tryd.isAgg77
  z171 := Tryd.sizeOf77
  v171 := Tryd.zeroValue77
  t173 := Tryd.underlying81
  a173 := Tryd.isAgg81
  z173 := Tryd.sizeOf81
  v173 := Tryd.zeroValue81
  t175 := Tryd.underlying87
  a175 := Tryd.isAgg87
  z175 := Tryd.sizeOf87
  v175 := Tryd.zeroValue87
  t210 := Tryd.underlying91
  a210 := Tryd.isAgg91
  z210 := Tryd.sizeOf91
  v210 := Tryd.zeroValue91
  t212 := Tryd.underlying94
  a212 := Tryd.isAgg94
  z212 := Tryd.sizeOf94
  v212 := Tryd.zeroValue94
  t213 := Tryd.underlying95
  a213 := Tryd.isAgg95
  z213 := Tryd.sizeOf95
  t232 := Tryd.underlying109
  a232 := Tryd.isAgg109
  z232 := Tryd.sizeOf109
  v232 := Tryd.zeroValue109
  t233 := Tryd.underlying110
  a233 := Tryd.isAgg110
  z233 := Tryd.sizeOf110
  v233 := Tryd.zeroValue110
  g15 := by kernel_rfl
  g16 := by kernel_rfl
  g17 := by kernel_rfl
  g18 := by kernel_rfl
  g19 := by kernel_rfl
  t80 := Tryd.underlying60
  a80 := Tryd.isAgg60
  z80 := Tryd.sizeOf60
  v80 := Tryd.zeroValue60
  i0 := by kernel_rfl
  i2 := by kernel_rfl
  i3 := by kernel_rfl
  i4 := by kernel_rfl
  i5 := by kernel_rfl
  i9 := by kernel_rfl
  i20 := by kernel_rfl
  i21 := by kernel_rfl
  i37 := by kernel_rfl
  i46 := by kernel_rfl
  i51 := by kernel_rfl
  i53 := by kernel_rfl
  i75 := by kernel_rfl
  i76 := by kernel_rfl
  i80 := by kernel_rfl
  i85 := by kernel_rfl
  i127 := by kernel_rfl
  i143 := by kernel_rfl
  i145 := by kernel_rfl
  i167 := by kernel_rfl
  i168 := by kernel_rfl
  i171 := by kernel_rfl
  i173 := by kernel_rfl
  i175 := by kernel_rfl
  i210 := by kernel_rfl
  i212 := by kernel_rfl
  i232 := by kernel_rfl
  i233 := by kernel_rfl
  m15 := by kernel_rfl
  m16 := by kernel_rfl
  m17 := by kernel_rfl
  m18 := by kernel_rfl
  m19 := by kernel_rfl
  c0 := by kernel_rfl
  c2 := by kernel_rfl
  c3 := by kernel_rfl
  c4 := by kernel_rfl
  c5 := by kernel_rfl
  c9 := by kernel_rfl
  c20 := by kernel_rfl
  c21 := by kernel_rfl
  c37 := by kernel_rfl
  c46 := by kernel_rfl
  c51 := by kernel_rfl
  c53 := by kernel_rfl
  c75 := by kernel_rfl
  c76 := by kernel_rfl
  c80 := by kernel_rfl
  c85 := by kernel_rfl
  c127 := by kernel_rfl
  c143 := by kernel_rfl
  c145 := by kernel_rfl
  c167 := by kernel_rfl
  c168 := by kernel_rfl
  c171 := by kernel_rfl
  c173 := by kernel_rfl
  c175 := by kernel_rfl
  c210 := by kernel_rfl
  c212 := by kernel_rfl
  c213 := by kernel_rfl
  c232 := by kernel_rfl
  c233 := by kernel_rfl }
open Go.RowKit in
theorem Shelf.strconv_Atoi_ok (s : ByteArray) (hmax : s.size ≤ 9223372036854775806) (v : Int) (h : Lib.atoiAll s.data.toList = .ok v) (w : World) :
    Calls Tryd.prog 27 #[.string s] w fun e w' => e = .returned (.tuple #[.int .i64 v, .nilIface]) ∧ (w' = w ∨ ∃ t, w' = Lib.bytesWorld w 5 t) := Any.strconv_Atoi_ok Shelf.laysC172 s hmax v h w
open Go.RowKit in
theorem Shelf.strconv_Atoi_syntax (s : ByteArray) (hlim : s.size ≤ 281474976710656) (h1 : ∀ v, Lib.atoiAll s.data.toList ≠ .ok v) (h2 : Lib.atoiAll s.data.toList ≠ .range) (ev : Value) (w : World) (hv : w.cell? ⟨1, 0, none⟩ = some ev) (hev : ev = .nilIface ∨ ∃ te pe, ev = .iface te pe) :
    Calls Tryd.prog 27 #[.string s] w fun e w' => ∃ N, e = .returned (.tuple #[.int .i64 (0), .iface 74 (.pointer (some ⟨N, 0, none⟩))]) ∧ w.heap.size ≤ N ∧ w'.heap[N]? = some (.cells #[.string ⟨#[65, 116, 111, 105]⟩, .string s, ev] 91 (0, 0)) ∧ Below w.heap.size w w' := Any.strconv_Atoi_syntax Shelf.laysC172 s hlim (by cases e : Lib.atoiAll s.data.toList with | ok v => exact absurd e (h1 v) | range => exact absurd e h2 | _ => rfl) ev w hv hev
open Go.RowKit in
theorem Shelf.strconv_Atoi_range (s : ByteArray) (hlim : s.size ≤ 281474976710656) (h : Lib.atoiAll s.data.toList = .range) (ev : Value) (w : World) (hv : w.cell? ⟨2, 0, none⟩ = some ev) (hev : ev = .nilIface ∨ ∃ te pe, ev = .iface te pe) :
    Calls Tryd.prog 27 #[.string s] w fun e w' => ∃ N, e = .returned (.tuple #[.int .i64 (Lib.atoiSat s.data.toList), .iface 74 (.pointer (some ⟨N, 0, none⟩))]) ∧ w.heap.size ≤ N ∧ w'.heap[N]? = some (.cells #[.string ⟨#[65, 116, 111, 105]⟩, .string s, ev] 91 (0, 0)) ∧ Below w.heap.size w w' := Any.strconv_Atoi_range Shelf.laysC172 s hlim h ev w hv hev
end Go.Proofs.YtkoomfldnbpndaaDoor

end
section
/- What the library's functions answer, as told by contracts over any world. Over any program. -/
set_option linter.unusedVariables false
set_option linter.unusedSimpArgs false
namespace Go.Ideal
open Go.RowKit
variable {P : Program}
/-- The world goes on: nothing that was there is another. -/
theorem HRel.goes {B : Nat} {w0 : Org} {σ : Sg} {h : Heap} {w w' : World} (H : HRel P B w0 σ h w) (hb' : Below w.heap.size w w') : HRel P B w0 σ h w' := by
  have hs := H.size
  refine ⟨H.below.trans (hb'.mono hs), Nat.le_trans hs hb'.size, H.dom, fun i x hx => Nat.lt_of_lt_of_le (H.codom i x hx) hb'.size, H.glob, fun i b hg => ?_, H.inj, ?_, H.old, H.tdom⟩
  · exact (H.blk i b hg).same fun _ b' hl => hb'.block _ (H.blk_lt hg hl)
  · refine ⟨fun b o v hv => ?_, fun b es he => ?_⟩
    · obtain ⟨cc, t, fz, q1, q2⟩ := H.frz.c b o v hv
      exact ⟨cc, t, fz, by rw [hb'.block _ (Array.getElem?_eq_some_iff.1 q1).1]; exact q1, q2⟩
    · obtain ⟨cl, q⟩ := H.frz.m b es he
      exact ⟨cl, by rw [hb'.block _ (Array.getElem?_eq_some_iff.1 q).1]; exact q⟩
theorem CallK.ofBelow {f : FuncId} {args : List Value} {v : Value} (hv : flat v = true) (hc : ∀ (σ : Sg) (w : World) (args' : Array Value), FzOK σ.f w → LRel σ args args'.toList → Calls P f args' w fun e w' => e = .returned v ∧ Below w.heap.size w w') : CallK P f args v :=
  fun h B w0 σ w args' H ha => (hc σ w args' H.frz ha).mono fun e w' ⟨k1, k2⟩ => ⟨v, v, h, k1, ⟨rfl, rfl⟩, σ, Sg.le_refl σ, flat_rel hv σ, H.goes k2⟩
theorem CallK.ofGoes {f : FuncId} {args : List Value} {v : Value} (hc : ∀ (σ : Sg) (w : World) (args' : Array Value), SentAt P w.heap.size w → FzOK σ.f w → LRel σ args args'.toList → Calls P f args' w fun e w' => ∃ v', e = .returned v' ∧ (∀ τ : Sg, VRel τ v v') ∧ Below w.heap.size w w') : CallK P f args v :=
  fun h B w0 σ w args' H ha => (hc σ w args' (H.old.2.goes H.below H.size) H.frz ha).mono fun e w' ⟨v', k1, k2, k3⟩ => ⟨v, v', h, k1, ⟨rfl, rfl⟩, σ, Sg.le_refl σ, k2 σ, H.goes k3⟩
theorem CallK.ofSame {f : FuncId} {args : List Value} {v : Value} (hv : flat v = true) (ha : args.all flat = true) (hc : ∀ (w : World), Calls P f args.toArray w fun e w' => e = .returned v ∧ w' = w) : CallK P f args v :=
  CallK.ofBelow hv fun σ w args' _ hr => by
    have : ∀ {l l' : List Value}, LRel σ l l' → l.all flat = true → l = l' := fun {l l'} h => by
      induction h with
      | nil => intro _; rfl
      | cons k _ ih => intro hh; simp only [List.all_cons, Bool.and_eq_true] at hh; rw [flat_eq hh.1 k, ih hh.2]
    have e : args.toArray = args' := by rw [this hr ha]
    subst e
    exact (hc w).mono fun e w' ⟨k1, k2⟩ => ⟨k1, by rw [k2]; exact Below.refl _ _⟩
/-- A slice of flat cells that stay: where they lie. -/
theorem vsl_cells {σ : Sg} {w : World} (hF : FzOK σ.f w) {n : Nat} (hn : 0 < n) {cs : List Value} (hl : cs.length = n) (hf : cs.all flat = true) {v : Value} (h : VRel σ (vsl n cs.toArray) v) :
    ∃ b o c, v = .slice (some ⟨b, o, none⟩) n c ∧ n ≤ c ∧ b < w.heap.size ∧ ∀ j x, cs[j]? = some x → w.cell? ⟨b, o + j, none⟩ = some x := by
  have hs : asSl (vsl n cs.toArray) = some ((n : Int), cs.toArray) := rfl
  obtain ⟨m, e, ⟨a', c', rfl, hm, hcs⟩ | ⟨b, o, c', rfl, hc, ms, h1, h2, h3⟩⟩ := asSl_rel hs h
  · exfalso; omega
  · obtain rfl : n = m := by exact Int.ofNat.inj e
    have hms : ms.size = n := by rw [← h1]; simpa using hl
    have key : ∀ j x, cs[j]? = some x → ∃ cc t fz, w.heap[b]? = some (.cells cc t fz) ∧ cc[o + j]? = some x := fun j x hx => by
      obtain ⟨hj, hx2⟩ := List.getElem?_eq_some_iff.1 hx
      have hr := h3 j
      have e1 : cs.toArray.getD j Go.undef = x := by simp [Array.getD, hj, hx2]
      rw [e1] at hr
      have hfx : flat x = true := List.all_eq_true.1 hf x (hx2 ▸ List.getElem_mem hj)
      have e2 := flat_eq hfx (FRel.vrel (σ := σ) hr)
      obtain ⟨cc, t, fz, q1, q2⟩ := hF.c b (o + j) _ (h2 j (by omega))
      exact ⟨cc, t, fz, q1, by rw [q2, e2]⟩
    refine ⟨b, o, c', rfl, hc, ?_, fun j x hx => ?_⟩
    · obtain ⟨cc, t, fz, q1, _⟩ := key 0 _ (List.getElem?_eq_getElem (by omega))
      exact (Array.getElem?_eq_some_iff.1 q1).1
    · obtain ⟨cc, t, fz, q1, q2⟩ := key j x hx
      simp [World.cell?, q1, q2]
end Go.Ideal

end
