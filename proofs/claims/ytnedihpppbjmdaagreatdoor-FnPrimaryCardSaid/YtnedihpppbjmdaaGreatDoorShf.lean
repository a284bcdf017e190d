/-
  The shelf's contracts at this program, in plain words: strings.Join, Split, CutPrefix, strconv.ParseInt, the layout of strconv.FormatInt, slices.Reverse, Sort, SortFunc (printed by the kit's tool).
-/
import Derived.Shelf.Strings.Builder1
import Derived.Shelf.Strings.Builder2
import Derived.Shelf.Strings.OnBuilder
import Derived.Shelf.Small.Bits
import Derived.Shelf.Small.Wraps
import Derived.Shelf.Strings.BuilderF
import Derived.Shelf.Strings.BuilderK
import Derived.Shelf.Utf8.RuneCount
import Derived.Shelf.Strings.Builder2Cap
import Derived.Shelf.Strconv.Itoa0
import Derived.Shelf.Strconv.Itoa1
import Derived.Shelf.LaysM
import Derived.Shelf.Strconv.Itoa2
import Derived.Shelf.Strconv.Itoa3
import Derived.Shelf.Strconv.Itoa4
import Derived.Shelf.Strconv.ParseIntEmpty
import Derived.Shelf.Strconv.Clone
import Derived.Shelf.Strconv.SyntaxError
import Derived.Shelf.LaysC
import Derived.Shelf.Strconv.ToError
import Derived.Shelf.Strconv.Lower
import Derived.Shelf.Strconv.ParseUint10
import Derived.Shelf.Strconv.ParseUint10Empty
import Derived.Shelf.Strconv.ParseUint10Any
import Derived.Shelf.Strconv.ParseInt10
import Derived.Shelf.Strconv.RangeError
import Derived.Shelf.Strconv.ToErrorRange
import Derived.Shelf.Strconv.ParseUintEmpty
import Derived.Shelf.Strconv.ParseUint10b64
import Derived.Shelf.Strconv.ParseUint10b32
import Derived.Shelf.Strconv.ParseUint10b16
import Derived.Shelf.Strconv.ParseUint10b8
import Derived.Shelf.Strconv.ParseUint10At
import Derived.Shelf.Strconv.ParseInt10At64
import Derived.Shelf.Strconv.ParseInt10At32
import Derived.Shelf.Strconv.ParseInt10At16
import Derived.Shelf.Strconv.ParseInt10At8
import Derived.Shelf.Strconv.ParseInt10All
import Derived.Shelf.Strconv.ParseIntPublic10
import Derived.Shelf.Strconv.ErrVarParseInt
import Derived.Shelf.Strings.Search1
import Derived.Shelf.Strings.Search2
import Derived.Shelf.Strings.Search3
import Derived.Shelf.Strings.Count
import Derived.Shelf.Strings.Shaped
import Derived.Shelf.Strings.Prefix
import Derived.Shelf.Strings.Split
import Derived.Shelf.Strings.SplitShaped
import Derived.Shelf.Unicode.Decode
import Derived.Shelf.Strings.RuneCount
import Derived.Shelf.Strings.Explode
import Derived.Shelf.Unicode.DecodeSlow
import Derived.Shelf.Unicode.DecodeAny
import Derived.Shelf.Strings.BuilderCap
import Derived.Ground.SlgnProg
import Derived.Shelf.SlicesG.Reverse
import Derived.Shelf.SlicesG.SearchI
import Derived.Shelf.SlicesG.Cells
import Derived.Shelf.SlicesE.Reverse
import Derived.Ground.SlgcProg
import Derived.Shelf.SlicesG.Cmp
import Derived.Ground.SlsfProg
import Derived.Shelf.SlSortCmp.Insertion
import Derived.Ground.SlgmProg
import Derived.Shelf.SortM.Plain
import Derived.Shelf.SortM.SortNone
import Derived.Shelf.SlSortCmp.SiftDown1
import Derived.Shelf.SlSortCmp.HeapSort1
import Derived.Shelf.SlSortCmp.Insertion1
import Derived.Shelf.SlSortCmp.Median1
import Derived.Shelf.SlSortCmp.Pivot1
import Derived.Shelf.SlSortCmp.ReverseRange1
import Derived.Shelf.SlSortCmp.PartialInsertion1
import Derived.Shelf.SlSortCmp.PartitionEqual1
import Derived.Shelf.SlSortCmp.Partition1
import Derived.Shelf.SlSortCmp.Pdq1
import Derived.Shelf.SlSortCmp.Whole1
import Derived.Shelf.SlSortCmp.NoneTotal
import Derived.Test.YtnedihpppbjmdaaGreatDoorProg
namespace Go.Proofs
open Go.Shelf
def Tryz.lays156_ren : Go.Shelf.Ren := ⟨fun | 156 => 38 | 165 => 54 | 166 => 55 | 169 => 56 | 240 => 82 | 241 => 83 | 276 => 111 | 277 => 112 | n => n, fun | 31 => 44 | 9 => 9 | 3 => 3 | 4 => 4 | 0 => 0 | 20 => 20 | 72 => 79 | 76 => 81 | 70 => 77 | 37 => 22 | 75 => 49 | 127 => 112 | 164 => 139 | 5 => 5 | 80 => 83 | n => n, fun | n => n⟩
theorem Tryz.lays156 : Go.Proofs.Lays.n156 Tryz.prog Tryz.lays156_ren := {
  mixed := by kernel_rfl
  f156 := Tryz.func38.trans (congrArg some (by kernel_rfl))
  f165 := Tryz.func54.trans (congrArg some (by kernel_rfl))
  f166 := Tryz.func55.trans (congrArg some (by kernel_rfl))
  f169 := Tryz.func56.trans (congrArg some (by kernel_rfl))
  f240 := Tryz.func82.trans (congrArg some (by kernel_rfl))
  f241 := Tryz.func83.trans (congrArg some (by kernel_rfl))
  f276 := Tryz.func111.trans (congrArg some (by kernel_rfl))
  f277 := Tryz.func112.trans (congrArg some (by kernel_rfl))
  t0 := Tryz.underlying0
  a0 := Tryz.isAgg0
  z0 := Tryz.sizeOf0
  v0 := Tryz.zeroValue0
  t3 := Tryz.underlying3
  a3 := Tryz.isAgg3
  z3 := Tryz.sizeOf3
  v3 := Tryz.zeroValue3
  t4 := Tryz.underlying4
  a4 := Tryz.isAgg4
  z4 := Tryz.sizeOf4
  v4 := Tryz.zeroValue4
  t9 := Tryz.underlying9
  a9 := Tryz.isAgg9
  z9 := Tryz.sizeOf9
  v9 := Tryz.zeroValue9
  t20 := Tryz.underlying20
  a20 := Tryz.isAgg20
  z20 := Tryz.sizeOf20
  v20 := Tryz.zeroValue20
  t31 := Tryz.underlying44
  a31 := Tryz.isAgg44
  z31 := Tryz.sizeOf44
  v31 := Tryz.zeroValue44
  t37 := Tryz.underlying22
  a37 := Tryz.isAgg22
  z37 := Tryz.sizeOf22
  v37 := Tryz.zeroValue22
  t70 := Tryz.underlying77
  a70 := Tryz.isAgg77
  z70 := Tryz.sizeOf77
  v70 := Tryz.zeroValue77
  t72 := Tryz.underlying79
  a72 := Tryz.isAgg79
  z72 := Tryz.sizeOf79
  v72 := Tryz.zeroValue79
  t75 := Tryz.underlying49
  a75 := Tryz.isAgg49
  z75 := Tryz.sizeOf49
  v75 := Tryz.zeroValue49
  t76 := Tryz.underlying81
  a76 := Tryz.isAgg81
  z76 := Tryz.sizeOf81
  v76 := Tryz.zeroValue81
  t127 := Tryz.underlying112
  a127 := Tryz.isAgg112
  z127 := Tryz.sizeOf112
  v127 := Tryz.zeroValue112
  t164 := Tryz.underlying139
  a164 := Tryz.isAgg139
  z164 := Tryz.sizeOf139
  v164 := Tryz.zeroValue139 }
theorem Tryz.Builder_Extra_156 : Builder.Extra Tryz.prog Tryz.lays156_ren := {
  sizeBuilder := by kernel_rfl
  liesBuilder := by kernel_rfl
  t5 := Tryz.underlying5
  a5 := Tryz.isAgg5
  z5 := Tryz.sizeOf5
  v5 := Tryz.zeroValue5
  infoByte := by kernel_rfl
  cellsByte := by kernel_rfl
  sizeByte := by kernel_rfl
  neB5 := by decide }
open Go.RowKit in
theorem Tryz.strings_Join_none (a : Option Addr) (c : Nat) (sep : ByteArray) (w : World) :
    Calls Tryz.prog 38 #[.slice a 0 c, .string sep] w fun e w' => e = .returned (.string ⟨#[]⟩) ∧ w' = w := Any.strings_Join_none Tryz.lays156 Tryz.Builder_Extra_156 a c sep w
open Go.RowKit in
theorem Tryz.strings_Join (bk o c : Nat) (xs : List ByteArray) (sep : ByteArray) (w : World) (hcells : ∀ (j : Nat) x, xs[j]? = some x → w.cell? ⟨bk, o + j, none⟩ = some (.string x)) (hbk : bk < w.heap.size) (hN : xs.length ≤ 140737488355328) (hcap : xs.length ≤ c) (hlen : (Lib.join (xs.map (·.data.toList)) sep.data.toList).length ≤ 140737488355328) :
    Calls Tryz.prog 38 #[.slice (some ⟨bk, o, none⟩) xs.length c, .string sep] w fun e w' => e = .returned (.string ⟨(Lib.join (xs.map (·.data.toList)) sep.data.toList).toArray⟩) ∧ Below w.heap.size w w' := Any.strings_Join Tryz.lays156 Tryz.Builder_Extra_156 bk o c xs sep w hcells hbk hN hcap hlen
def Tryz.lays103_ren : Go.Shelf.Ren := ⟨fun | 103 => 23 | 210 => 41 | 206 => 60 | n => n, fun | 9 => 9 | 4 => 4 | 24 => 46 | 3 => 3 | n => n, fun | n => n⟩
theorem Tryz.lays103 : Go.Proofs.Lays.n103 Tryz.prog Tryz.lays103_ren := {
  mixed := by kernel_rfl
  f103 := Tryz.func23.trans (congrArg some (by kernel_rfl))
  f206 := Tryz.func60.trans (congrArg some (by kernel_rfl))
  f210 := Tryz.func41.trans (congrArg some (by kernel_rfl))
  t3 := Tryz.underlying3
  a3 := Tryz.isAgg3
  z3 := Tryz.sizeOf3
  v3 := Tryz.zeroValue3
  t4 := Tryz.underlying4
  a4 := Tryz.isAgg4
  z4 := Tryz.sizeOf4
  v4 := Tryz.zeroValue4
  t9 := Tryz.underlying9
  a9 := Tryz.isAgg9
  z9 := Tryz.sizeOf9
  v9 := Tryz.zeroValue9
  t24 := Tryz.underlying46
  a24 := Tryz.isAgg46
  z24 := Tryz.sizeOf46
  v24 := Tryz.zeroValue46 }
open Go.RowKit in
theorem Tryz.strings_CutPrefix (s p : ByteArray) (w : World) :
    Calls Tryz.prog 23 #[.string s, .string p] w fun e w' => e = .returned (.tuple #[.string ⟨(Lib.trimPrefix s.data.toList p.data.toList).toArray⟩, .bool (Lib.hasPrefix s.data.toList p.data.toList)]) ∧ w' = w := Any.strings_CutPrefix Tryz.lays103 s p w
def Tryz.laysM173_ren : Go.Shelf.Ren := ⟨fun | 173 => 37 | 246 => 53 | 283 => 78 | 284 => 79 | 285 => 80 | 286 => 81 | 129 => 76 | 317 => 107 | 318 => 108 | 319 => 109 | 320 => 110 | 337 => 123 | 338 => 124 | n => n, fun | 2 => 2 | 3 => 3 | 9 => 9 | 4 => 4 | 171 => 108 | 0 => 0 | 53 => 88 | 37 => 22 | 5 => 5 | 173 => 110 | 212 => 136 | 51 => 104 | 20 => 20 | 213 => 137 | 46 => 73 | 232 => 157 | 233 => 158 | n => n, fun | 17 => 2 | 18 => 6 | 19 => 7 | n => n⟩
theorem Tryz.laysM173 : Go.Proofs.LaysM.n173 Tryz.prog Tryz.laysM173_ren := {
  mixed := by kernel_rfl
  f129 := Tryz.func76.trans (congrArg some (by kernel_rfl))
  f173 := Tryz.func37.trans (congrArg some (by kernel_rfl))
  f246 := Tryz.func53.trans (congrArg some (by kernel_rfl))
  f283 := Tryz.func78.trans (congrArg some (by kernel_rfl))
  f284 := Tryz.func79.trans (congrArg some (by kernel_rfl))
  f285 := Tryz.func80.trans (congrArg some (by kernel_rfl))
  f286 := Tryz.func81.trans (congrArg some (by kernel_rfl))
  f317 := Tryz.func107.trans (congrArg some (by kernel_rfl))
  f318 := Tryz.func108.trans (congrArg some (by kernel_rfl))
  f319 := Tryz.func109.trans (congrArg some (by kernel_rfl))
  f320 := Tryz.func110.trans (congrArg some (by kernel_rfl))
  f337 := Tryz.func123.trans (congrArg some (by kernel_rfl))
  f338 := Tryz.func124.trans (congrArg some (by kernel_rfl))
  t0 := Tryz.underlying0
  a0 := Tryz.isAgg0
  z0 := Tryz.sizeOf0
  v0 := Tryz.zeroValue0
  t2 := Tryz.underlying2
  a2 := Tryz.isAgg2
  z2 := Tryz.sizeOf2
  v2 := Tryz.zeroValue2
  t3 := Tryz.underlying3
  a3 := Tryz.isAgg3
  z3 := Tryz.sizeOf3
  v3 := Tryz.zeroValue3
  t4 := Tryz.underlying4
  a4 := Tryz.isAgg4
  z4 := Tryz.sizeOf4
  v4 := Tryz.zeroValue4
  t5 := Tryz.underlying5
  a5 := Tryz.isAgg5
  z5 := Tryz.sizeOf5
  v5 := Tryz.zeroValue5
  t9 := Tryz.underlying9
  a9 := Tryz.isAgg9
  z9 := Tryz.sizeOf9
  v9 := Tryz.zeroValue9
  t20 := Tryz.underlying20
  a20 := Tryz.isAgg20
  z20 := Tryz.sizeOf20
  v20 := Tryz.zeroValue20
  t37 := Tryz.underlying22
  a37 := Tryz.isAgg22
  z37 := Tryz.sizeOf22
  v37 := Tryz.zeroValue22
  t46 := Tryz.underlying73
  a46 := Tryz.isAgg73
  z46 := Tryz.sizeOf73
  v46 := Tryz.zeroValue73
  t51 := Tryz.underlying104
  a51 := Tryz.isAgg104
  z51 := Tryz.sizeOf104
  v51 := Tryz.zeroValue104
  t53 := Tryz.underlying88
  a53 := Tryz.isAgg88
  z53 := Tryz.sizeOf88
  v53 := Tryz.zeroValue88
  t171 := Tryz.underlying108
  a171 := Tryz.isAgg108
  z171 := Tryz.sizeOf108
  v171 := Tryz.zeroValue108
  t173 := Tryz.underlying110
  a173 := Tryz.isAgg110
  z173 := Tryz.sizeOf110
  v173 := Tryz.zeroValue110
  t212 := Tryz.underlying136
  a212 := Tryz.isAgg136
  z212 := Tryz.sizeOf136
  v212 := Tryz.zeroValue136
  t213 := Tryz.underlying137
  a213 := Tryz.isAgg137
  z213 := Tryz.sizeOf137
  t232 := Tryz.underlying157
  a232 := Tryz.isAgg157
  z232 := Tryz.sizeOf157
  v232 := Tryz.zeroValue157
  t233 := Tryz.underlying158
  a233 := Tryz.isAgg158
  z233 := Tryz.sizeOf158
  v233 := Tryz.zeroValue158
  g17 := by kernel_rfl
  g18 := by kernel_rfl
  g19 := by kernel_rfl
  i0 := by kernel_rfl
  i2 := by kernel_rfl
  i3 := by kernel_rfl
  i4 := by kernel_rfl
  i5 := by kernel_rfl
  i9 := by kernel_rfl
  i20 := by kernel_rfl
  i37 := by kernel_rfl
  i46 := by kernel_rfl
  i51 := by kernel_rfl
  i53 := by kernel_rfl
  i171 := by kernel_rfl
  i173 := by kernel_rfl
  i212 := by kernel_rfl
  i232 := by kernel_rfl
  i233 := by kernel_rfl
  m17 := by kernel_rfl
  m18 := by kernel_rfl
  m19 := by kernel_rfl }
def Tryz.laysC174_ren : Go.Shelf.Ren := ⟨fun | 174 => 24 | 247 => 42 | 245 => 43 | 287 => 61 | 279 => 62 | 280 => 63 | 281 => 64 | 282 => 65 | 321 => 88 | 322 => 89 | 316 => 90 | 171 => 92 | 205 => 91 | 243 => 118 | 246 => 53 | 283 => 78 | 284 => 79 | 285 => 80 | 286 => 81 | 129 => 76 | 317 => 107 | 318 => 108 | 319 => 109 | 320 => 110 | 337 => 123 | 338 => 124 | n => n, fun | 9 => 9 | 3 => 3 | 2 => 2 | 75 => 49 | 85 => 50 | 4 => 4 | 167 => 87 | 5 => 5 | 53 => 88 | 175 => 89 | 46 => 73 | 168 => 91 | 37 => 22 | 0 => 0 | 210 => 121 | 21 => 21 | 127 => 112 | 145 => 144 | 143 => 142 | 171 => 108 | 173 => 110 | 212 => 136 | 51 => 104 | 20 => 20 | 213 => 137 | 232 => 157 | 233 => 158 | 80 => 83 | n => n, fun | 15 => 0 | 16 => 1 | 17 => 2 | 18 => 6 | 19 => 7 | n => n⟩
theorem Tryz.laysC174 : Go.Proofs.LaysC.n174 Tryz.prog Tryz.laysC174_ren := {
  mixed := by kernel_rfl
  f129 := Tryz.func76.trans (congrArg some (by kernel_rfl))
  f171 := Tryz.func92.trans (congrArg some (by kernel_rfl))
  f174 := Tryz.func24.trans (congrArg some (by kernel_rfl))
  f205 := Tryz.func91.trans (congrArg some (by kernel_rfl))
  f243 := Tryz.func118.trans (congrArg some (by kernel_rfl))
  f245 := Tryz.func43.trans (congrArg some (by kernel_rfl))
  f246 := Tryz.func53.trans (congrArg some (by kernel_rfl))
  f247 := Tryz.func42.trans (congrArg some (by kernel_rfl))
  f279 := Tryz.func62.trans (congrArg some (by kernel_rfl))
  f280 := Tryz.func63.trans (congrArg some (by kernel_rfl))
  f281 := Tryz.func64.trans (congrArg some (by kernel_rfl))
  f282 := Tryz.func65.trans (congrArg some (by kernel_rfl))
  f283 := Tryz.func78.trans (congrArg some (by kernel_rfl))
  f284 := Tryz.func79.trans (congrArg some (by kernel_rfl))
  f285 := Tryz.func80.trans (congrArg some (by kernel_rfl))
  f286 := Tryz.func81.trans (congrArg some (by kernel_rfl))
  f287 := Tryz.func61.trans (congrArg some (by kernel_rfl))
  f316 := Tryz.func90.trans (congrArg some (by kernel_rfl))
  f317 := Tryz.func107.trans (congrArg some (by kernel_rfl))
  f318 := Tryz.func108.trans (congrArg some (by kernel_rfl))
  f319 := Tryz.func109.trans (congrArg some (by kernel_rfl))
  f320 := Tryz.func110.trans (congrArg some (by kernel_rfl))
  f321 := Tryz.func88.trans (congrArg some (by kernel_rfl))
  f322 := Tryz.func89.trans (congrArg some (by kernel_rfl))
  f337 := Tryz.func123.trans (congrArg some (by kernel_rfl))
  f338 := Tryz.func124.trans (congrArg some (by kernel_rfl))
  t0 := Tryz.underlying0
  a0 := Tryz.isAgg0
  z0 := Tryz.sizeOf0
  v0 := Tryz.zeroValue0
  t2 := Tryz.underlying2
  a2 := Tryz.isAgg2
  z2 := Tryz.sizeOf2
  v2 := Tryz.zeroValue2
  t3 := Tryz.underlying3
  a3 := Tryz.isAgg3
  z3 := Tryz.sizeOf3
  v3 := Tryz.zeroValue3
  t4 := Tryz.underlying4
  a4 := Tryz.isAgg4
  z4 := Tryz.sizeOf4
  v4 := Tryz.zeroValue4
  t5 := Tryz.underlying5
  a5 := Tryz.isAgg5
  z5 := Tryz.sizeOf5
  v5 := Tryz.zeroValue5
  t9 := Tryz.underlying9
  a9 := Tryz.isAgg9
  z9 := Tryz.sizeOf9
  v9 := Tryz.zeroValue9
  t20 := Tryz.underlying20
  a20 := Tryz.isAgg20
  z20 := Tryz.sizeOf20
  v20 := Tryz.zeroValue20
  t21 := Tryz.underlying21
  a21 := Tryz.isAgg21
  z21 := Tryz.sizeOf21
  v21 := Tryz.zeroValue21
  t37 := Tryz.underlying22
  a37 := Tryz.isAgg22
  z37 := Tryz.sizeOf22
  v37 := Tryz.zeroValue22
  t46 := Tryz.underlying73
  a46 := Tryz.isAgg73
  z46 := Tryz.sizeOf73
  v46 := Tryz.zeroValue73
  t51 := Tryz.underlying104
  a51 := Tryz.isAgg104
  z51 := Tryz.sizeOf104
  v51 := Tryz.zeroValue104
  t53 := Tryz.underlying88
  a53 := Tryz.isAgg88
  z53 := Tryz.sizeOf88
  v53 := Tryz.zeroValue88
  t75 := Tryz.underlying49
  a75 := Tryz.isAgg49
  z75 := Tryz.sizeOf49
  v75 := Tryz.zeroValue49
  t85 := Tryz.underlying50
  a85 := Tryz.isAgg50
  z85 := Tryz.sizeOf50
  v85 := Tryz.zeroValue50
  t127 := Tryz.underlying112
  a127 := Tryz.isAgg112
  z127 := Tryz.sizeOf112
  v127 := Tryz.zeroValue112
  t143 := Tryz.underlying142
  a143 := Tryz.isAgg142
  z143 := Tryz.sizeOf142
  v143 := Tryz.zeroValue142
  t145 := Tryz.underlying144
  a145 := Tryz.isAgg144
  z145 := Tryz.sizeOf144
  v145 := Tryz.zeroValue144
  t167 := Tryz.underlying87
  a167 := Tryz.isAgg87
  z167 := Tryz.sizeOf87
  v167 := Tryz.zeroValue87
  t168 := Tryz.underlying91
  a168 := Tryz.isAgg91
  z168 := Tryz.sizeOf91
  v168 := Tryz.zeroValue91
  t171 := Tryz.underlying108
  a171 := Tryz.isAgg108
  z171 := Tryz.sizeOf108
  v171 := Tryz.zeroValue108
  t173 := Tryz.underlying110
  a173 := Tryz.isAgg110
  z173 := Tryz.sizeOf110
  v173 := Tryz.zeroValue110
  t175 := Tryz.underlying89
  a175 := Tryz.isAgg89
  z175 := Tryz.sizeOf89
  v175 := Tryz.zeroValue89
  t210 := Tryz.underlying121
  a210 := Tryz.isAgg121
  z210 := Tryz.sizeOf121
  v210 := Tryz.zeroValue121
  t212 := Tryz.underlying136
  a212 := Tryz.isAgg136
  z212 := Tryz.sizeOf136
  v212 := Tryz.zeroValue136
  t213 := Tryz.underlying137
  a213 := Tryz.isAgg137
  z213 := Tryz.sizeOf137
  t232 := Tryz.underlying157
  a232 := Tryz.isAgg157
  z232 := Tryz.sizeOf157
  v232 := Tryz.zeroValue157
  t233 := Tryz.underlying158
  a233 := Tryz.isAgg158
  z233 := Tryz.sizeOf158
  v233 := Tryz.zeroValue158
  g15 := by kernel_rfl
  g16 := by kernel_rfl
  g17 := by kernel_rfl
  g18 := by kernel_rfl
  g19 := by kernel_rfl
  t80 := Tryz.underlying83
  a80 := Tryz.isAgg83
  z80 := Tryz.sizeOf83
  v80 := Tryz.zeroValue83
  i0 := by kernel_rfl
  i2 := by kernel_rfl
  i3 := by kernel_rfl
  i4 := by kernel_rfl
  i5 := by kernel_rfl
  i9 := by kernel_rfl
  i20 := by kernel_rfl
  i21 := by kernel_rfl
  i37 := by kernel_rfl
  i46 := by kernel_rfl
  i51 := by kernel_rfl
  i53 := by kernel_rfl
  i75 := by kernel_rfl
  i80 := by kernel_rfl
  i85 := by kernel_rfl
  i127 := by kernel_rfl
  i143 := by kernel_rfl
  i145 := by kernel_rfl
  i167 := by kernel_rfl
  i168 := by kernel_rfl
  i171 := by kernel_rfl
  i173 := by kernel_rfl
  i175 := by kernel_rfl
  i210 := by kernel_rfl
  i212 := by kernel_rfl
  i232 := by kernel_rfl
  i233 := by kernel_rfl
  m15 := by kernel_rfl
  m16 := by kernel_rfl
  m17 := by kernel_rfl
  m18 := by kernel_rfl
  m19 := by kernel_rfl
  c0 := by kernel_rfl
  c2 := by kernel_rfl
  c3 := by kernel_rfl
  c4 := by kernel_rfl
  c5 := by kernel_rfl
  c9 := by kernel_rfl
  c20 := by kernel_rfl
  c21 := by kernel_rfl
  c37 := by kernel_rfl
  c46 := by kernel_rfl
  c51 := by kernel_rfl
  c53 := by kernel_rfl
  c75 := by kernel_rfl
  c80 := by kernel_rfl
  c85 := by kernel_rfl
  c127 := by kernel_rfl
  c143 := by kernel_rfl
  c145 := by kernel_rfl
  c167 := by kernel_rfl
  c168 := by kernel_rfl
  c171 := by kernel_rfl
  c173 := by kernel_rfl
  c175 := by kernel_rfl
  c210 := by kernel_rfl
  c212 := by kernel_rfl
  c213 := by kernel_rfl
  c232 := by kernel_rfl
  c233 := by kernel_rfl }
theorem Tryz.strconv_ParseInt_10_at64_ok (s : ByteArray) (hmax : s.size ≤ 9223372036854775806) (v : Int) (h : Lib.parseIntB 64 s.data.toList = .ok v) (w : World) :
    Calls Tryz.prog 24 #[.string s, .int .i64 10, .int .i64 64] w fun e w' => e = .returned (.tuple #[.int .i64 v, .nilIface]) ∧ (w' = w ∨ ∃ t, w' = Lib.bytesWorld w 5 t) := Any.strconv_ParseInt_10_at64_ok Tryz.laysC174 s hmax v h w
def Tryz.lays146_ren : Go.Shelf.Ren := ⟨fun | 146 => 22 | 221 => 40 | 268 => 57 | 138 => 58 | 143 => 59 | 195 => 84 | 197 => 85 | 218 => 86 | 219 => 87 | 260 => 113 | 217 => 114 | 225 => 115 | 224 => 116 | 267 => 117 | 266 => 125 | 314 => 126 | n => n, fun | 9 => 9 | 31 => 44 | 3 => 3 | 4 => 4 | 0 => 0 | 105 => 114 | 21 => 21 | 5 => 5 | 46 => 73 | 119 => 150 | 139 => 153 | 138 => 152 | 146 => 154 | 51 => 104 | n => n, fun | 1 => 3 | 3 => 4 | 4 => 5 | n => n⟩
theorem Tryz.lays146 : Go.Proofs.Lays.n146 Tryz.prog Tryz.lays146_ren := {
  mixed := by kernel_rfl
  f138 := Tryz.func58.trans (congrArg some (by kernel_rfl))
  f143 := Tryz.func59.trans (congrArg some (by kernel_rfl))
  f146 := Tryz.func22.trans (congrArg some (by kernel_rfl))
  f195 := Tryz.func84.trans (congrArg some (by kernel_rfl))
  f197 := Tryz.func85.trans (congrArg some (by kernel_rfl))
  f217 := Tryz.func114.trans (congrArg some (by kernel_rfl))
  f218 := Tryz.func86.trans (congrArg some (by kernel_rfl))
  f219 := Tryz.func87.trans (congrArg some (by kernel_rfl))
  f221 := Tryz.func40.trans (congrArg some (by kernel_rfl))
  f224 := Tryz.func116.trans (congrArg some (by kernel_rfl))
  f225 := Tryz.func115.trans (congrArg some (by kernel_rfl))
  f260 := Tryz.func113.trans (congrArg some (by kernel_rfl))
  f266 := Tryz.func125.trans (congrArg some (by kernel_rfl))
  f267 := Tryz.func117.trans (congrArg some (by kernel_rfl))
  f268 := Tryz.func57.trans (congrArg some (by kernel_rfl))
  f314 := Tryz.func126.trans (congrArg some (by kernel_rfl))
  t0 := Tryz.underlying0
  a0 := Tryz.isAgg0
  z0 := Tryz.sizeOf0
  v0 := Tryz.zeroValue0
  t3 := Tryz.underlying3
  a3 := Tryz.isAgg3
  z3 := Tryz.sizeOf3
  v3 := Tryz.zeroValue3
  t4 := Tryz.underlying4
  a4 := Tryz.isAgg4
  z4 := Tryz.sizeOf4
  v4 := Tryz.zeroValue4
  t5 := Tryz.underlying5
  a5 := Tryz.isAgg5
  z5 := Tryz.sizeOf5
  v5 := Tryz.zeroValue5
  t9 := Tryz.underlying9
  a9 := Tryz.isAgg9
  z9 := Tryz.sizeOf9
  v9 := Tryz.zeroValue9
  t21 := Tryz.underlying21
  a21 := Tryz.isAgg21
  z21 := Tryz.sizeOf21
  v21 := Tryz.zeroValue21
  t31 := Tryz.underlying44
  a31 := Tryz.isAgg44
  z31 := Tryz.sizeOf44
  v31 := Tryz.zeroValue44
  t46 := Tryz.underlying73
  a46 := Tryz.isAgg73
  z46 := Tryz.sizeOf73
  v46 := Tryz.zeroValue73
  t51 := Tryz.underlying104
  a51 := Tryz.isAgg104
  z51 := Tryz.sizeOf104
  v51 := Tryz.zeroValue104
  t105 := Tryz.underlying114
  a105 := Tryz.isAgg114
  z105 := Tryz.sizeOf114
  v105 := Tryz.zeroValue114
  t119 := Tryz.underlying150
  a119 := Tryz.isAgg150
  z119 := Tryz.sizeOf150
  t138 := Tryz.underlying152
  a138 := Tryz.isAgg152
  z138 := Tryz.sizeOf152
  v138 := Tryz.zeroValue152
  t139 := Tryz.underlying153
  a139 := Tryz.isAgg153
  z139 := Tryz.sizeOf153
  v139 := Tryz.zeroValue153
  t146 := Tryz.underlying154
  a146 := Tryz.isAgg154
  z146 := Tryz.sizeOf154
  v146 := Tryz.zeroValue154
  g1 := by kernel_rfl
  g3 := by kernel_rfl
  g4 := by kernel_rfl }
open Go.RowKit Go.Lib in
theorem Tryz.strings_Split (s sep : ByteArray) (m : Int) (w : World) (hs : s.size < 4294967281) (hm : w.cell? ⟨3, 0, none⟩ = some (.int .i64 m)) (h1 : 1 ≤ sep.size) :
    Calls Tryz.prog 22 #[.string s, .string sep] w fun e w' =>
      e = .returned (.slice (some ⟨w.heap.size, 0, none⟩) (Lib.countB s sep + 1) (Lib.countB s sep + 1)) ∧ w' = w.alloc (.cells ((Lib.splitB sep 0 (Lib.countB s sep) s).map Value.string).toArray 9) := Any.strings_Split Tryz.lays146 (by kernel_rfl) s sep m w hs hm h1
def Tryz.laysSlN35_f45_ren : Go.Shelf.Ren := ⟨fun | 35 => 45 | n => n, fun | 22 => 24 | 23 => 2 | 3 => 3 | 4 => 4 | 0 => 0 | n => n, fun | n => n⟩
theorem Tryz.laysSlN35_f45 : Go.Proofs.SlLaysN.n35 Tryz.prog Tryz.laysSlN35_f45_ren := {
  mixed := by kernel_rfl
  f35 := ⟨Tryz.f45.name, by decide, Tryz.func45.trans (congrArg some (by kernel_rfl))⟩
  t0 := Tryz.underlying0
  a0 := Tryz.isAgg0
  z0 := Tryz.sizeOf0
  v0 := Tryz.zeroValue0
  t3 := Tryz.underlying3
  a3 := Tryz.isAgg3
  z3 := Tryz.sizeOf3
  v3 := Tryz.zeroValue3
  t4 := Tryz.underlying4
  a4 := Tryz.isAgg4
  z4 := Tryz.sizeOf4
  v4 := Tryz.zeroValue4
  t22 := Tryz.underlying24
  a22 := Tryz.isAgg24
  z22 := Tryz.sizeOf24
  v22 := Tryz.zeroValue24
  t23 := Tryz.underlying2
  a23 := Tryz.isAgg2
  z23 := Tryz.sizeOf2
  v23 := Tryz.zeroValue2 }
open Go.RowKit Go.Lib Go.Sort in
theorem Tryz.slices_Reverse_int_arr (blk off cap : Nat) (d : Array Int) (w : World) (hH : Holds encI w blk off d) (hsz : d.size ≤ 9223372036854775807) :
    Calls Tryz.prog 45 #[.slice (some ⟨blk, off, none⟩) d.size cap] w fun e w' => e = .returned (.tuple #[]) ∧ ∃ n, w' = putRow encI (Sort.ahead w n) blk off d.reverse := AnyG.slices_Reverse_int_arr Tryz.laysSlN35_f45 blk off cap d w hH hsz
open Go.RowKit Go.Lib Go.Sort in
theorem Tryz.slices_Reverse_int (blk off cap : Nat) (zs : List Int) (w : World) (hH : Holds (Value.int .i64) w blk off zs.toArray) (hsz : zs.length ≤ 9223372036854775807) :
    Calls Tryz.prog 45 #[.slice (some ⟨blk, off, none⟩) zs.length cap] w fun e w' => e = .returned (.tuple #[]) ∧ ∃ n, w' = putRow (Value.int .i64) (Sort.ahead w n) blk off zs.reverse.toArray := AnyG.slices_Reverse_int Tryz.laysSlN35_f45 blk off cap zs w hH hsz
open Go.RowKit Go.Lib Go.Sort in
theorem Tryz.slices_Reverse_int_empty (a : Option Addr) (cap : Nat) (w : World) :
    Calls Tryz.prog 45 #[.slice a 0 cap] w fun e w' => e = .returned (.tuple #[]) ∧ w' = w := AnyG.slices_Reverse_int_empty Tryz.laysSlN35_f45 a cap w
def Tryz.laysSlM5_f44_ren : Go.Shelf.Ren := ⟨fun | 5 => 44 | 8 => 49 | 7 => 66 | 19 => 75 | 20 => 76 | 10 => 93 | 11 => 94 | 12 => 95 | 13 => 96 | 14 => 97 | 15 => 98 | 16 => 99 | 17 => 100 | 18 => 101 | 30 => 119 | 31 => 103 | 32 => 104 | 33 => 120 | 34 => 121 | 35 => 50 | 40 => 127 | n => n, fun | 23 => 24 | 25 => 2 | 3 => 3 | 32 => 73 | 22 => 24 | 0 => 0 | 44 => 104 | 46 => 88 | 4 => 4 | 36 => 97 | 35 => 96 | 41 => 101 | 5 => 5 | 9 => 9 | 53 => 128 | 57 => 132 | 63 => 147 | 64 => 148 | n => n, fun | n => n⟩
theorem Tryz.laysSlM5_f44 : Go.Proofs.SlLaysM.n5 Tryz.prog Tryz.laysSlM5_f44_ren := {
  mixed := by kernel_rfl
  f5 := ⟨Tryz.f44.name, by decide, Tryz.func44.trans (congrArg some (by kernel_rfl))⟩
  f7 := ⟨Tryz.f66.name, by decide, Tryz.func66.trans (congrArg some (by kernel_rfl))⟩
  f8 := Tryz.func49.trans (congrArg some (by kernel_rfl))
  f10 := ⟨Tryz.f93.name, by decide, Tryz.func93.trans (congrArg some (by kernel_rfl))⟩
  f11 := ⟨Tryz.f94.name, by decide, Tryz.func94.trans (congrArg some (by kernel_rfl))⟩
  f12 := ⟨Tryz.f95.name, by decide, Tryz.func95.trans (congrArg some (by kernel_rfl))⟩
  f13 := ⟨Tryz.f96.name, by decide, Tryz.func96.trans (congrArg some (by kernel_rfl))⟩
  f14 := ⟨Tryz.f97.name, by decide, Tryz.func97.trans (congrArg some (by kernel_rfl))⟩
  f15 := ⟨Tryz.f98.name, by decide, Tryz.func98.trans (congrArg some (by kernel_rfl))⟩
  f16 := ⟨Tryz.f99.name, by decide, Tryz.func99.trans (congrArg some (by kernel_rfl))⟩
  f17 := ⟨Tryz.f100.name, by decide, Tryz.func100.trans (congrArg some (by kernel_rfl))⟩
  f18 := ⟨Tryz.f101.name, by decide, Tryz.func101.trans (congrArg some (by kernel_rfl))⟩
  f19 := Tryz.func75.trans (congrArg some (by kernel_rfl))
  f20 := Tryz.func76.trans (congrArg some (by kernel_rfl))
  f30 := ⟨Tryz.f119.name, by decide, Tryz.func119.trans (congrArg some (by kernel_rfl))⟩
  f31 := Tryz.func103.trans (congrArg some (by kernel_rfl))
  f32 := Tryz.func104.trans (congrArg some (by kernel_rfl))
  f33 := ⟨Tryz.f120.name, by decide, Tryz.func120.trans (congrArg some (by kernel_rfl))⟩
  f34 := ⟨Tryz.f121.name, by decide, Tryz.func121.trans (congrArg some (by kernel_rfl))⟩
  f35 := ⟨Tryz.f50.name, by decide, Tryz.func50.trans (congrArg some (by kernel_rfl))⟩
  f40 := ⟨Tryz.f127.name, by decide, Tryz.func127.trans (congrArg some (by kernel_rfl))⟩
  t0 := Tryz.underlying0
  a0 := Tryz.isAgg0
  z0 := Tryz.sizeOf0
  v0 := Tryz.zeroValue0
  t3 := Tryz.underlying3
  a3 := Tryz.isAgg3
  z3 := Tryz.sizeOf3
  v3 := Tryz.zeroValue3
  t4 := Tryz.underlying4
  a4 := Tryz.isAgg4
  z4 := Tryz.sizeOf4
  v4 := Tryz.zeroValue4
  t5 := Tryz.underlying5
  a5 := Tryz.isAgg5
  z5 := Tryz.sizeOf5
  v5 := Tryz.zeroValue5
  t9 := Tryz.underlying9
  a9 := Tryz.isAgg9
  z9 := Tryz.sizeOf9
  v9 := Tryz.zeroValue9
  t22 := Tryz.underlying24
  a22 := Tryz.isAgg24
  z22 := Tryz.sizeOf24
  v22 := Tryz.zeroValue24
  t23 := Tryz.underlying24
  a23 := Tryz.isAgg24
  z23 := Tryz.sizeOf24
  v23 := Tryz.zeroValue24
  t25 := Tryz.underlying2
  a25 := Tryz.isAgg2
  z25 := Tryz.sizeOf2
  v25 := Tryz.zeroValue2
  t32 := Tryz.underlying73
  a32 := Tryz.isAgg73
  z32 := Tryz.sizeOf73
  v32 := Tryz.zeroValue73
  t35 := Tryz.underlying96
  a35 := Tryz.isAgg96
  z35 := Tryz.sizeOf96
  v35 := Tryz.zeroValue96
  t36 := Tryz.underlying97
  a36 := Tryz.isAgg97
  z36 := Tryz.sizeOf97
  v36 := Tryz.zeroValue97
  t41 := Tryz.underlying101
  a41 := Tryz.isAgg101
  z41 := Tryz.sizeOf101
  v41 := Tryz.zeroValue101
  t44 := Tryz.underlying104
  a44 := Tryz.isAgg104
  z44 := Tryz.sizeOf104
  v44 := Tryz.zeroValue104
  t46 := Tryz.underlying88
  a46 := Tryz.isAgg88
  z46 := Tryz.sizeOf88
  v46 := Tryz.zeroValue88
  t53 := Tryz.underlying128
  a53 := Tryz.isAgg128
  z53 := Tryz.sizeOf128
  v53 := Tryz.zeroValue128
  t57 := Tryz.underlying132
  a57 := Tryz.isAgg132
  z57 := Tryz.sizeOf132
  v57 := Tryz.zeroValue132
  t63 := Tryz.underlying147
  a63 := Tryz.isAgg147
  z63 := Tryz.sizeOf147
  v63 := Tryz.zeroValue147
  t64 := Tryz.underlying148
  a64 := Tryz.isAgg148
  z64 := Tryz.sizeOf148
  v64 := Tryz.zeroValue148 }
open Go.Sort Go.RowKit in
theorem Tryz.slices_Sort_int (blk off cap : Nat) (zs : List Int) (w : World) (hH : Holds (Value.int .i64) w blk off zs.toArray) (hblk : blk < w.heap.size) (hsz : zs.length < 4611686018427387904) :
    Calls Tryz.prog 44 #[.slice (some ⟨blk, off, none⟩) zs.length cap] w fun e w' =>
      e = .returned (.tuple #[]) ∧ ∃ n os, w' = grow (putRow (Value.int .i64) (Sort.ahead w n) blk off (zs.mergeSort fun x y => decide (x ≤ y)).toArray) os := AnyM.slices_Sort_int Tryz.laysSlM5_f44 blk off cap zs w hH hblk hsz
open Go.RowKit Go.Sort in
theorem Tryz.slices_Sort_int_none (p : Option Addr) (cap : Nat) (w : World) :
    Calls Tryz.prog 44 #[.slice p 0 cap] w fun e w' => e = .returned (.tuple #[]) ∧ w' = w := AnyM.slices_Sort_int_none Tryz.laysSlM5_f44 p cap w
def Tryz.laysSlF6_f31_ren : Go.Shelf.Ren := ⟨fun | 6 => 31 | 15 => 49 | 14 => 48 | 28 => 75 | 29 => 76 | 20 => 67 | 21 => 68 | 22 => 69 | 23 => 70 | 24 => 71 | 25 => 72 | 26 => 73 | 27 => 74 | 46 => 102 | 47 => 103 | 48 => 104 | 49 => 105 | 50 => 106 | 57 => 122 | n => n, fun | 22 => 24 | 24 => 2 | 25 => 62 | 3 => 3 | 39 => 73 | 0 => 0 | 53 => 104 | 55 => 88 | 4 => 4 | 46 => 97 | 45 => 96 | 50 => 101 | 5 => 5 | 9 => 9 | 66 => 128 | 70 => 132 | 76 => 147 | 77 => 148 | n => n, fun | n => n⟩
theorem Tryz.laysSlF6_f31 : Go.Proofs.SlLaysF.n6 Tryz.prog Tryz.laysSlF6_f31_ren := {
  mixed := by kernel_rfl
  f6 := ⟨Tryz.f31.name, by decide, Tryz.func31.trans (congrArg some (by kernel_rfl))⟩
  f14 := ⟨Tryz.f48.name, by decide, Tryz.func48.trans (congrArg some (by kernel_rfl))⟩
  f15 := Tryz.func49.trans (congrArg some (by kernel_rfl))
  f20 := ⟨Tryz.f67.name, by decide, Tryz.func67.trans (congrArg some (by kernel_rfl))⟩
  f21 := ⟨Tryz.f68.name, by decide, Tryz.func68.trans (congrArg some (by kernel_rfl))⟩
  f22 := ⟨Tryz.f69.name, by decide, Tryz.func69.trans (congrArg some (by kernel_rfl))⟩
  f23 := ⟨Tryz.f70.name, by decide, Tryz.func70.trans (congrArg some (by kernel_rfl))⟩
  f24 := ⟨Tryz.f71.name, by decide, Tryz.func71.trans (congrArg some (by kernel_rfl))⟩
  f25 := ⟨Tryz.f72.name, by decide, Tryz.func72.trans (congrArg some (by kernel_rfl))⟩
  f26 := ⟨Tryz.f73.name, by decide, Tryz.func73.trans (congrArg some (by kernel_rfl))⟩
  f27 := ⟨Tryz.f74.name, by decide, Tryz.func74.trans (congrArg some (by kernel_rfl))⟩
  f28 := Tryz.func75.trans (congrArg some (by kernel_rfl))
  f29 := Tryz.func76.trans (congrArg some (by kernel_rfl))
  f46 := ⟨Tryz.f102.name, by decide, Tryz.func102.trans (congrArg some (by kernel_rfl))⟩
  f47 := Tryz.func103.trans (congrArg some (by kernel_rfl))
  f48 := Tryz.func104.trans (congrArg some (by kernel_rfl))
  f49 := ⟨Tryz.f105.name, by decide, Tryz.func105.trans (congrArg some (by kernel_rfl))⟩
  f50 := ⟨Tryz.f106.name, by decide, Tryz.func106.trans (congrArg some (by kernel_rfl))⟩
  f57 := ⟨Tryz.f122.name, by decide, Tryz.func122.trans (congrArg some (by kernel_rfl))⟩
  t0 := Tryz.underlying0
  a0 := Tryz.isAgg0
  z0 := Tryz.sizeOf0
  v0 := Tryz.zeroValue0
  t3 := Tryz.underlying3
  a3 := Tryz.isAgg3
  z3 := Tryz.sizeOf3
  v3 := Tryz.zeroValue3
  t4 := Tryz.underlying4
  a4 := Tryz.isAgg4
  z4 := Tryz.sizeOf4
  v4 := Tryz.zeroValue4
  t5 := Tryz.underlying5
  a5 := Tryz.isAgg5
  z5 := Tryz.sizeOf5
  v5 := Tryz.zeroValue5
  t9 := Tryz.underlying9
  a9 := Tryz.isAgg9
  z9 := Tryz.sizeOf9
  v9 := Tryz.zeroValue9
  t22 := Tryz.underlying24
  a22 := Tryz.isAgg24
  z22 := Tryz.sizeOf24
  v22 := Tryz.zeroValue24
  a24 := Tryz.isAgg2
  z24 := Tryz.sizeOf2
  t25 := Tryz.underlying62
  a25 := Tryz.isAgg62
  z25 := Tryz.sizeOf62
  v25 := Tryz.zeroValue62
  t39 := Tryz.underlying73
  a39 := Tryz.isAgg73
  z39 := Tryz.sizeOf73
  v39 := Tryz.zeroValue73
  t45 := Tryz.underlying96
  a45 := Tryz.isAgg96
  z45 := Tryz.sizeOf96
  v45 := Tryz.zeroValue96
  t46 := Tryz.underlying97
  a46 := Tryz.isAgg97
  z46 := Tryz.sizeOf97
  v46 := Tryz.zeroValue97
  t50 := Tryz.underlying101
  a50 := Tryz.isAgg101
  z50 := Tryz.sizeOf101
  v50 := Tryz.zeroValue101
  t53 := Tryz.underlying104
  a53 := Tryz.isAgg104
  z53 := Tryz.sizeOf104
  v53 := Tryz.zeroValue104
  t55 := Tryz.underlying88
  a55 := Tryz.isAgg88
  z55 := Tryz.sizeOf88
  v55 := Tryz.zeroValue88
  t66 := Tryz.underlying128
  a66 := Tryz.isAgg128
  z66 := Tryz.sizeOf128
  v66 := Tryz.zeroValue128
  t70 := Tryz.underlying132
  a70 := Tryz.isAgg132
  z70 := Tryz.sizeOf132
  v70 := Tryz.zeroValue132
  t76 := Tryz.underlying147
  a76 := Tryz.isAgg147
  z76 := Tryz.sizeOf147
  v76 := Tryz.zeroValue147
  t77 := Tryz.underlying148
  a77 := Tryz.isAgg148
  z77 := Tryz.sizeOf148
  v77 := Tryz.zeroValue148 }
open Go.RowKit Go.Lib Go.Sort in
theorem Tryz.slices_SortFunc_eq {α : Type} [Inhabited α] (enc : α → Value) (h1 : OneCell enc) (cf : α → α → Int) (hO : SWO (ltOf cf)) (g : Nat) (cb : Array Value) (blk off cap : Nat) (d : Array α) (w : World) (eg : ∀ args w, (callFunc g args).run Tryz.prog w = .ok (.enter g args) w) (hcmp : CmpLays1 Tryz.prog g cb enc cf blk off d.size w) (hH : Holds enc w blk off d) (hblk : blk < w.heap.size) (hsz : d.size < 4611686018427387904) :
    Calls Tryz.prog 31 #[.slice (some ⟨blk, off, none⟩) d.size cap, .func (.func g) #[] cb] w fun e w' =>
      e = .returned (.tuple #[]) ∧ ∃ n os, w' = sortWorld enc w blk off n (pdq (ltOf cf) d 0 d.size (Lib.bitLen d.size) true true) os := Any.slices_SortFunc_eq Tryz.laysSlF6_f31 enc h1 cf hO g cb blk off cap d w eg hcmp hH hblk hsz
open Go.RowKit Go.Lib Go.Sort in
theorem Tryz.slices_SortFunc {α : Type} [Inhabited α] (enc : α → Value) (h1 : OneCell enc) (cf : α → α → Int) (hO : SWO (ltOf cf)) (g : Nat) (cb : Array Value) (blk off cap : Nat) (d : Array α) (w : World) (eg : ∀ args w, (callFunc g args).run Tryz.prog w = .ok (.enter g args) w) (hcmp : CmpLays1 Tryz.prog g cb enc cf blk off d.size w) (hH : Holds enc w blk off d) (hblk : blk < w.heap.size) (hsz : d.size < 4611686018427387904) :
    Calls Tryz.prog 31 #[.slice (some ⟨blk, off, none⟩) d.size cap, .func (.func g) #[] cb] w fun e w' =>
      e = .returned (.tuple #[]) ∧ ∃ d' n os, PermIn 0 d.size d d' ∧ SortedIn (ltOf cf) 0 d.size d' ∧ w' = sortWorld enc w blk off n d' os := Any.slices_SortFunc Tryz.laysSlF6_f31 enc h1 cf hO g cb blk off cap d w eg hcmp hH hblk hsz
def Tryz.laysSlF06_f31_ren : Go.Shelf.Ren := ⟨fun | 6 => 31 | 15 => 49 | 14 => 48 | 28 => 75 | 29 => 76 | 20 => 67 | 21 => 68 | 22 => 69 | 23 => 70 | 24 => 71 | 25 => 72 | 26 => 73 | 27 => 74 | 46 => 102 | 47 => 103 | 48 => 104 | 49 => 105 | 50 => 106 | 57 => 122 | n => n, fun | 22 => 24 | 24 => 2 | 25 => 62 | 3 => 3 | 39 => 73 | 0 => 0 | 53 => 104 | 55 => 88 | 4 => 4 | 46 => 97 | 45 => 96 | 50 => 101 | 5 => 5 | 9 => 9 | 66 => 128 | 70 => 132 | 76 => 147 | 77 => 148 | n => n, fun | n => n⟩
theorem Tryz.laysSlF06_f31 : Go.Proofs.SlLaysF0.n6 Tryz.prog Tryz.laysSlF06_f31_ren := {
  mixed := by kernel_rfl
  f6 := ⟨Tryz.f31.name, by decide, Tryz.func31.trans (congrArg some (by kernel_rfl))⟩
  f14 := ⟨Tryz.f48.name, by decide, Tryz.func48.trans (congrArg some (by kernel_rfl))⟩
  f15 := Tryz.func49.trans (congrArg some (by kernel_rfl))
  f20 := ⟨Tryz.f67.name, by decide, Tryz.func67.trans (congrArg some (by kernel_rfl))⟩
  f21 := ⟨Tryz.f68.name, by decide, Tryz.func68.trans (congrArg some (by kernel_rfl))⟩
  f22 := ⟨Tryz.f69.name, by decide, Tryz.func69.trans (congrArg some (by kernel_rfl))⟩
  f23 := ⟨Tryz.f70.name, by decide, Tryz.func70.trans (congrArg some (by kernel_rfl))⟩
  f24 := ⟨Tryz.f71.name, by decide, Tryz.func71.trans (congrArg some (by kernel_rfl))⟩
  f25 := ⟨Tryz.f72.name, by decide, Tryz.func72.trans (congrArg some (by kernel_rfl))⟩
  f26 := ⟨Tryz.f73.name, by decide, Tryz.func73.trans (congrArg some (by kernel_rfl))⟩
  f27 := ⟨Tryz.f74.name, by decide, Tryz.func74.trans (congrArg some (by kernel_rfl))⟩
  f28 := Tryz.func75.trans (congrArg some (by kernel_rfl))
  f29 := Tryz.func76.trans (congrArg some (by kernel_rfl))
  f46 := ⟨Tryz.f102.name, by decide, Tryz.func102.trans (congrArg some (by kernel_rfl))⟩
  f47 := Tryz.func103.trans (congrArg some (by kernel_rfl))
  f48 := Tryz.func104.trans (congrArg some (by kernel_rfl))
  f49 := ⟨Tryz.f105.name, by decide, Tryz.func105.trans (congrArg some (by kernel_rfl))⟩
  f50 := ⟨Tryz.f106.name, by decide, Tryz.func106.trans (congrArg some (by kernel_rfl))⟩
  f57 := ⟨Tryz.f122.name, by decide, Tryz.func122.trans (congrArg some (by kernel_rfl))⟩
  t0 := Tryz.underlying0
  a0 := Tryz.isAgg0
  z0 := Tryz.sizeOf0
  v0 := Tryz.zeroValue0
  t3 := Tryz.underlying3
  a3 := Tryz.isAgg3
  z3 := Tryz.sizeOf3
  v3 := Tryz.zeroValue3
  t4 := Tryz.underlying4
  a4 := Tryz.isAgg4
  z4 := Tryz.sizeOf4
  v4 := Tryz.zeroValue4
  t5 := Tryz.underlying5
  a5 := Tryz.isAgg5
  z5 := Tryz.sizeOf5
  v5 := Tryz.zeroValue5
  t9 := Tryz.underlying9
  a9 := Tryz.isAgg9
  z9 := Tryz.sizeOf9
  v9 := Tryz.zeroValue9
  t22 := Tryz.underlying24
  a22 := Tryz.isAgg24
  z22 := Tryz.sizeOf24
  v22 := Tryz.zeroValue24
  t25 := Tryz.underlying62
  a25 := Tryz.isAgg62
  z25 := Tryz.sizeOf62
  v25 := Tryz.zeroValue62
  t39 := Tryz.underlying73
  a39 := Tryz.isAgg73
  z39 := Tryz.sizeOf73
  v39 := Tryz.zeroValue73
  t45 := Tryz.underlying96
  a45 := Tryz.isAgg96
  z45 := Tryz.sizeOf96
  v45 := Tryz.zeroValue96
  t46 := Tryz.underlying97
  a46 := Tryz.isAgg97
  z46 := Tryz.sizeOf97
  v46 := Tryz.zeroValue97
  t50 := Tryz.underlying101
  a50 := Tryz.isAgg101
  z50 := Tryz.sizeOf101
  v50 := Tryz.zeroValue101
  t53 := Tryz.underlying104
  a53 := Tryz.isAgg104
  z53 := Tryz.sizeOf104
  v53 := Tryz.zeroValue104
  t55 := Tryz.underlying88
  a55 := Tryz.isAgg88
  z55 := Tryz.sizeOf88
  v55 := Tryz.zeroValue88
  t66 := Tryz.underlying128
  a66 := Tryz.isAgg128
  z66 := Tryz.sizeOf128
  v66 := Tryz.zeroValue128
  t70 := Tryz.underlying132
  a70 := Tryz.isAgg132
  z70 := Tryz.sizeOf132
  v70 := Tryz.zeroValue132
  t76 := Tryz.underlying147
  a76 := Tryz.isAgg147
  z76 := Tryz.sizeOf147
  v76 := Tryz.zeroValue147
  t77 := Tryz.underlying148
  a77 := Tryz.isAgg148
  z77 := Tryz.sizeOf148
  v77 := Tryz.zeroValue148 }
open Go.RowKit Go.Lib Go.Sort in
theorem Tryz.slices_SortFunc_none {α : Type} [Inhabited α] (p : Option Addr) (cap : Nat) (fv : Value) (w : World) :
    Calls Tryz.prog 31 #[.slice p 0 cap, fv] w fun e w' => e = .returned (.tuple #[]) ∧ w' = w := AnyF.slices_SortFunc_none Tryz.laysSlF06_f31 p cap fv w
open Go.RowKit Go.Lib Go.Sort in
theorem Tryz.slices_SortFunc_total {α : Type} [Inhabited α] (enc : α → Value) (h1 : OneCell enc) (cf : α → α → Int) (hO : SWO (ltOf cf)) (g : Nat) (cb : Array Value) (blk off cap : Nat) (d : Array α) (w : World) (eg : ∀ args w, (callFunc g args).run Tryz.prog w = .ok (.enter g args) w) (hcmp : CmpLays1 Tryz.prog g cb enc cf blk off d.size w) (hH : Holds enc w blk off d) (hblk : blk < w.heap.size) (hsz : d.size < 4611686018427387904) (hT : ∀ x y, (ltOf cf) x y = false → (ltOf cf) y x = false → x = y) :
    Calls Tryz.prog 31 #[.slice (some ⟨blk, off, none⟩) d.size cap, .func (.func g) #[] cb] w fun e w' =>
      e = .returned (.tuple #[]) ∧ ∃ n os, w' = sortWorld enc w blk off n (d.toList.mergeSort fun x y => !(ltOf cf) y x).toArray os := Any.slices_SortFunc_total Tryz.laysSlF6_f31 enc h1 cf hO g cb blk off cap d w eg hcmp hH hblk hsz hT
end Go.Proofs
