/- Layout: three contracts of the shelf at this program: strings.Join, strings.IndexByte, strconv.Itoa (laid by the shelf, in plain words). -/
import Derived.Shelf.Strings.Builder1
import Derived.Shelf.Strings.Builder2
import Derived.Shelf.Strings.OnBuilder
import Derived.Shelf.Strings.Trim
import Derived.Shelf.Small.Strs
import Derived.Shelf.Strconv.Itoa0
import Derived.Shelf.Strconv.Itoa1
import Derived.Shelf.LaysM
import Derived.Shelf.Strconv.Itoa2
import Derived.Shelf.Strconv.Itoa3
import Derived.Shelf.Strconv.Itoa4
import Derived.Shelf.Strings.Search1
import Derived.Test.YtcklmkjlbpjojaaGreatDoorProg
namespace Go.Proofs
open Go.Shelf
def Tryz.lays156_ren : Go.Shelf.Ren := ⟨fun | 156 => 104 | 165 => 118 | 166 => 119 | 169 => 120 | 240 => 131 | 241 => 132 | 276 => 141 | 277 => 142 | n => n, fun | 31 => 120 | 9 => 9 | 3 => 3 | 4 => 4 | 0 => 0 | 20 => 20 | 72 => 142 | 76 => 146 | 70 => 140 | 37 => 34 | 75 => 145 | 127 => 158 | 164 => 169 | 5 => 5 | 80 => 43 | n => n, fun | n => n⟩
theorem Tryz.lays156 : Go.Proofs.Lays.n156 Tryz.prog Tryz.lays156_ren := {
  mixed := by kernel_rfl
  f156 := Tryz.func104.trans (congrArg some (by kernel_rfl))
  f165 := Tryz.func118.trans (congrArg some (by kernel_rfl))
  f166 := Tryz.func119.trans (congrArg some (by kernel_rfl))
  f169 := Tryz.func120.trans (congrArg some (by kernel_rfl))
  f240 := Tryz.func131.trans (congrArg some (by kernel_rfl))
  f241 := Tryz.func132.trans (congrArg some (by kernel_rfl))
  f276 := Tryz.func141.trans (congrArg some (by kernel_rfl))
  f277 := Tryz.func142.trans (congrArg some (by kernel_rfl))
  t0 := Tryz.underlying0
  a0 := Tryz.isAgg0
  z0 := Tryz.sizeOf0
  v0 := Tryz.zeroValue0
  t3 := Tryz.underlying3
  a3 := Tryz.isAgg3
  z3 := Tryz.sizeOf3
  v3 := Tryz.zeroValue3
  t4 := Tryz.underlying4
  a4 := Tryz.isAgg4
  z4 := Tryz.sizeOf4
  v4 := Tryz.zeroValue4
  t9 := Tryz.underlying9
  a9 := Tryz.isAgg9
  z9 := Tryz.sizeOf9
  v9 := Tryz.zeroValue9
  t20 := Tryz.underlying20
  a20 := Tryz.isAgg20
  z20 := Tryz.sizeOf20
  v20 := Tryz.zeroValue20
  t31 := Tryz.underlying120
  a31 := Tryz.isAgg120
  z31 := Tryz.sizeOf120
  v31 := Tryz.zeroValue120
  t37 := Tryz.underlying34
  a37 := Tryz.isAgg34
  z37 := Tryz.sizeOf34
  v37 := Tryz.zeroValue34
  t70 := Tryz.underlying140
  a70 := Tryz.isAgg140
  z70 := Tryz.sizeOf140
  v70 := Tryz.zeroValue140
  t72 := Tryz.underlying142
  a72 := Tryz.isAgg142
  z72 := Tryz.sizeOf142
  v72 := Tryz.zeroValue142
  t75 := Tryz.underlying145
  a75 := Tryz.isAgg145
  z75 := Tryz.sizeOf145
  v75 := Tryz.zeroValue145
  t76 := Tryz.underlying146
  a76 := Tryz.isAgg146
  z76 := Tryz.sizeOf146
  v76 := Tryz.zeroValue146
  t127 := Tryz.underlying158
  a127 := Tryz.isAgg158
  z127 := Tryz.sizeOf158
  v127 := Tryz.zeroValue158
  t164 := Tryz.underlying169
  a164 := Tryz.isAgg169
  z164 := Tryz.sizeOf169
  v164 := Tryz.zeroValue169 }
theorem Tryz.Builder_Extra_156 : Builder.Extra Tryz.prog Tryz.lays156_ren := {
  sizeBuilder := by kernel_rfl
  liesBuilder := by kernel_rfl
  t5 := Tryz.underlying5
  a5 := Tryz.isAgg5
  z5 := Tryz.sizeOf5
  v5 := Tryz.zeroValue5
  infoByte := by kernel_rfl
  cellsByte := by kernel_rfl
  sizeByte := by kernel_rfl
  neB5 := by decide }
open Go.RowKit in

theorem Tryz.strings_Join (bk o c : Nat) (xs : List ByteArray) (sep : ByteArray) (w : World) (hcells : ∀ (j : Nat) x, xs[j]? = some x → w.cell? ⟨bk, o + j, none⟩ = some (.string x)) (hbk : bk < w.heap.size) (hN : xs.length ≤ 140737488355328) (hcap : xs.length ≤ c) (hlen : (Lib.join (xs.map (·.data.toList)) sep.data.toList).length ≤ 140737488355328) :
    Calls Tryz.prog 104 #[.slice (some ⟨bk, o, none⟩) xs.length c, .string sep] w fun e w' => e = .returned (.string ⟨(Lib.join (xs.map (·.data.toList)) sep.data.toList).toArray⟩) ∧ Below w.heap.size w w' := Any.strings_Join Tryz.lays156 Tryz.Builder_Extra_156 bk o c xs sep w hcells hbk hN hcap hlen
def Tryz.lays160_ren : Go.Shelf.Ren := ⟨fun | 160 => 41 | 232 => 78 | 231 => 77 | 227 => 79 | 234 => 81 | 233 => 80 | 236 => 83 | 235 => 82 | 228 => 108 | 271 => 111 | 151 => 110 | 197 => 109 | 120 => 125 | 152 => 124 | 260 => 123 | 137 => 66 | 119 => 133 | 224 => 134 | 225 => 135 | 217 => 105 | 266 => 121 | n => n, fun | 9 => 9 | 4 => 4 | 3 => 3 | 5 => 5 | 117 => 113 | 116 => 112 | 0 => 0 | 124 => 116 | 21 => 21 | 105 => 132 | 46 => 83 | 119 => 159 | 139 => 162 | 138 => 161 | n => n, fun | 3 => 1 | 4 => 2 | n => n⟩
theorem Tryz.lays160 : Go.Proofs.Lays.n160 Tryz.prog Tryz.lays160_ren := {
  mixed := by kernel_rfl
  f119 := Tryz.func133.trans (congrArg some (by kernel_rfl))
  f120 := Tryz.func125.trans (congrArg some (by kernel_rfl))
  f137 := Tryz.func66.trans (congrArg some (by kernel_rfl))
  f151 := Tryz.func110.trans (congrArg some (by kernel_rfl))
  f152 := Tryz.func124.trans (congrArg some (by kernel_rfl))
  f160 := Tryz.func41.trans (congrArg some (by kernel_rfl))
  f197 := Tryz.func109.trans (congrArg some (by kernel_rfl))
  f217 := Tryz.func105.trans (congrArg some (by kernel_rfl))
  f224 := Tryz.func134.trans (congrArg some (by kernel_rfl))
  f225 := Tryz.func135.trans (congrArg some (by kernel_rfl))
  f227 := Tryz.func79.trans (congrArg some (by kernel_rfl))
  f228 := Tryz.func108.trans (congrArg some (by kernel_rfl))
  f231 := Tryz.func77.trans (congrArg some (by kernel_rfl))
  f232 := Tryz.func78.trans (congrArg some (by kernel_rfl))
  f233 := Tryz.func80.trans (congrArg some (by kernel_rfl))
  f234 := Tryz.func81.trans (congrArg some (by kernel_rfl))
  f235 := Tryz.func82.trans (congrArg some (by kernel_rfl))
  f236 := Tryz.func83.trans (congrArg some (by kernel_rfl))
  f260 := Tryz.func123.trans (congrArg some (by kernel_rfl))
  f266 := Tryz.func121.trans (congrArg some (by kernel_rfl))
  f271 := Tryz.func111.trans (congrArg some (by kernel_rfl))
  t0 := Tryz.underlying0
  a0 := Tryz.isAgg0
  z0 := Tryz.sizeOf0
  v0 := Tryz.zeroValue0
  t3 := Tryz.underlying3
  a3 := Tryz.isAgg3
  z3 := Tryz.sizeOf3
  v3 := Tryz.zeroValue3
  t4 := Tryz.underlying4
  a4 := Tryz.isAgg4
  z4 := Tryz.sizeOf4
  v4 := Tryz.zeroValue4
  t5 := Tryz.underlying5
  a5 := Tryz.isAgg5
  z5 := Tryz.sizeOf5
  v5 := Tryz.zeroValue5
  t9 := Tryz.underlying9
  a9 := Tryz.isAgg9
  z9 := Tryz.sizeOf9
  v9 := Tryz.zeroValue9
  t21 := Tryz.underlying21
  a21 := Tryz.isAgg21
  z21 := Tryz.sizeOf21
  v21 := Tryz.zeroValue21
  t46 := Tryz.underlying83
  a46 := Tryz.isAgg83
  z46 := Tryz.sizeOf83
  v46 := Tryz.zeroValue83
  t105 := Tryz.underlying132
  a105 := Tryz.isAgg132
  z105 := Tryz.sizeOf132
  v105 := Tryz.zeroValue132
  t116 := Tryz.underlying112
  a116 := Tryz.isAgg112
  z116 := Tryz.sizeOf112
  t117 := Tryz.underlying113
  a117 := Tryz.isAgg113
  z117 := Tryz.sizeOf113
  v117 := Tryz.zeroValue113
  t119 := Tryz.underlying159
  a119 := Tryz.isAgg159
  z119 := Tryz.sizeOf159
  t124 := Tryz.underlying116
  a124 := Tryz.isAgg116
  z124 := Tryz.sizeOf116
  v124 := Tryz.zeroValue116
  t138 := Tryz.underlying161
  a138 := Tryz.isAgg161
  z138 := Tryz.sizeOf161
  v138 := Tryz.zeroValue161
  t139 := Tryz.underlying162
  a139 := Tryz.isAgg162
  z139 := Tryz.sizeOf162
  v139 := Tryz.zeroValue162
  g3 := by kernel_rfl
  g4 := by kernel_rfl }
def Tryz.lays137_ren : Go.Shelf.Ren := ⟨fun | 137 => 66 | 217 => 105 | 266 => 121 | n => n, fun | 9 => 9 | 5 => 5 | 3 => 3 | n => n, fun | n => n⟩
theorem Tryz.lays137 : Go.Proofs.Lays.n137 Tryz.prog Tryz.lays137_ren := {
  mixed := by kernel_rfl
  f137 := Tryz.func66.trans (congrArg some (by kernel_rfl))
  f217 := Tryz.func105.trans (congrArg some (by kernel_rfl))
  f266 := Tryz.func121.trans (congrArg some (by kernel_rfl))
  t3 := Tryz.underlying3
  a3 := Tryz.isAgg3
  z3 := Tryz.sizeOf3
  v3 := Tryz.zeroValue3
  t5 := Tryz.underlying5
  a5 := Tryz.isAgg5
  z5 := Tryz.sizeOf5
  v5 := Tryz.zeroValue5
  t9 := Tryz.underlying9
  a9 := Tryz.isAgg9
  z9 := Tryz.sizeOf9
  v9 := Tryz.zeroValue9 }
open Go.RowKit in

theorem Tryz.strings_IndexByte (s : ByteArray) (c : Int) (w : World) :
    Calls Tryz.prog 66 #[.string s, .int .u8 c] w fun e w' => e = .returned (.int .i64 (Lib.indexByte s.data.toList c.toNat.toUInt8)) ∧ w' = w := Any.strings_IndexByte Tryz.lays137 s c w
def Tryz.laysM171_ren : Go.Shelf.Ren := ⟨fun | 171 => 103 | 243 => 117 | 246 => 112 | 283 => 126 | 284 => 127 | 285 => 128 | 286 => 129 | 129 => 137 | 317 => 136 | 318 => 138 | 319 => 139 | 320 => 140 | 337 => 143 | 338 => 144 | n => n, fun | 3 => 3 | 9 => 9 | 2 => 2 | 4 => 4 | 171 => 151 | 0 => 0 | 53 => 152 | 37 => 34 | 5 => 5 | 173 => 155 | 212 => 165 | 51 => 166 | 20 => 20 | 213 => 167 | 46 => 83 | 232 => 173 | 233 => 174 | n => n, fun | 17 => 3 | 18 => 4 | 19 => 5 | n => n⟩
theorem Tryz.laysM171 : Go.Proofs.LaysM.n171 Tryz.prog Tryz.laysM171_ren := {
  mixed := by kernel_rfl
  f129 := Tryz.func137.trans (congrArg some (by kernel_rfl))
  f171 := Tryz.func103.trans (congrArg some (by kernel_rfl))
  f243 := Tryz.func117.trans (congrArg some (by kernel_rfl))
  f246 := Tryz.func112.trans (congrArg some (by kernel_rfl))
  f283 := Tryz.func126.trans (congrArg some (by kernel_rfl))
  f284 := Tryz.func127.trans (congrArg some (by kernel_rfl))
  f285 := Tryz.func128.trans (congrArg some (by kernel_rfl))
  f286 := Tryz.func129.trans (congrArg some (by kernel_rfl))
  f317 := Tryz.func136.trans (congrArg some (by kernel_rfl))
  f318 := Tryz.func138.trans (congrArg some (by kernel_rfl))
  f319 := Tryz.func139.trans (congrArg some (by kernel_rfl))
  f320 := Tryz.func140.trans (congrArg some (by kernel_rfl))
  f337 := Tryz.func143.trans (congrArg some (by kernel_rfl))
  f338 := Tryz.func144.trans (congrArg some (by kernel_rfl))
  t0 := Tryz.underlying0
  a0 := Tryz.isAgg0
  z0 := Tryz.sizeOf0
  v0 := Tryz.zeroValue0
  t2 := Tryz.underlying2
  a2 := Tryz.isAgg2
  z2 := Tryz.sizeOf2
  v2 := Tryz.zeroValue2
  t3 := Tryz.underlying3
  a3 := Tryz.isAgg3
  z3 := Tryz.sizeOf3
  v3 := Tryz.zeroValue3
  t4 := Tryz.underlying4
  a4 := Tryz.isAgg4
  z4 := Tryz.sizeOf4
  v4 := Tryz.zeroValue4
  t5 := Tryz.underlying5
  a5 := Tryz.isAgg5
  z5 := Tryz.sizeOf5
  v5 := Tryz.zeroValue5
  t9 := Tryz.underlying9
  a9 := Tryz.isAgg9
  z9 := Tryz.sizeOf9
  v9 := Tryz.zeroValue9
  t20 := Tryz.underlying20
  a20 := Tryz.isAgg20
  z20 := Tryz.sizeOf20
  v20 := Tryz.zeroValue20
  t37 := Tryz.underlying34
  a37 := Tryz.isAgg34
  z37 := Tryz.sizeOf34
  v37 := Tryz.zeroValue34
  t46 := Tryz.underlying83
  a46 := Tryz.isAgg83
  z46 := Tryz.sizeOf83
  v46 := Tryz.zeroValue83
  t51 := Tryz.underlying166
  a51 := Tryz.isAgg166
  z51 := Tryz.sizeOf166
  v51 := Tryz.zeroValue166
  t53 := Tryz.underlying152
  a53 := Tryz.isAgg152
  z53 := Tryz.sizeOf152
  v53 := Tryz.zeroValue152
  t171 := Tryz.underlying151
  a171 := Tryz.isAgg151
  z171 := Tryz.sizeOf151
  v171 := Tryz.zeroValue151
  t173 := Tryz.underlying155
  a173 := Tryz.isAgg155
  z173 := Tryz.sizeOf155
  v173 := Tryz.zeroValue155
  t212 := Tryz.underlying165
  a212 := Tryz.isAgg165
  z212 := Tryz.sizeOf165
  v212 := Tryz.zeroValue165
  t213 := Tryz.underlying167
  a213 := Tryz.isAgg167
  z213 := Tryz.sizeOf167
  t232 := Tryz.underlying173
  a232 := Tryz.isAgg173
  z232 := Tryz.sizeOf173
  v232 := Tryz.zeroValue173
  t233 := Tryz.underlying174
  a233 := Tryz.isAgg174
  z233 := Tryz.sizeOf174
  v233 := Tryz.zeroValue174
  g17 := by kernel_rfl
  g18 := by kernel_rfl
  g19 := by kernel_rfl
  i0 := by kernel_rfl
  i2 := by kernel_rfl
  i3 := by kernel_rfl
  i4 := by kernel_rfl
  i5 := by kernel_rfl
  i9 := by kernel_rfl
  i20 := by kernel_rfl
  i37 := by kernel_rfl
  i46 := by kernel_rfl
  i51 := by kernel_rfl
  i53 := by kernel_rfl
  i171 := by kernel_rfl
  i173 := by kernel_rfl
  i212 := by kernel_rfl
  i232 := by kernel_rfl
  i233 := by kernel_rfl
  m17 := by kernel_rfl
  m18 := by kernel_rfl
  m19 := by kernel_rfl }
open Go.RowKit Go.Sort Go.Lib in

theorem Tryz.strconv_Itoa (n : Int) (h0 : -9223372036854775808 ≤ n) (h1 : n ≤ 9223372036854775807) (w : World) (htab : Lib.TabIs Tryz.prog w "internal/strconv.uint64pow10" .u64 Lib.pow10Tab) :
    Calls Tryz.prog 103 #[.int .i64 n] w fun e w' => e = .returned (.string ⟨(Lib.itoa n).toArray⟩) ∧ ∃ k os, w' = grow (w.drewN k) os := Any.strconv_Itoa Tryz.laysM171 n h0 h1 w htab
end Go.Proofs
