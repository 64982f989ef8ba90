/- The shelf's contracts of strings.Join and strconv.Itoa, laid here (lay-shelf, lay-plain). -/
import Derived.Shelf.Strings.Builder1
import Derived.Shelf.Strings.Builder2
import Derived.Shelf.Strings.OnBuilder
import Derived.Shelf.Strconv.Itoa0
import Derived.Shelf.Strconv.Itoa1
import Derived.Shelf.LaysM
import Derived.Shelf.Strconv.Itoa2
import Derived.Shelf.Strconv.Itoa3
import Derived.Test.YtjjjpakgnipghaaProg
namespace Go.Proofs
open Go.Shelf
def Try.lays156_ren : Go.Shelf.Ren := ⟨fun | 156 => 160 | 165 => 161 | 166 => 162 | 169 => 163 | 240 => 164 | 241 => 165 | 276 => 166 | 277 => 167 | n => n, fun | 31 => 98 | 9 => 9 | 3 => 3 | 4 => 4 | 0 => 0 | 20 => 20 | 72 => 174 | 76 => 178 | 70 => 172 | 37 => 22 | 75 => 177 | 127 => 156 | 164 => 180 | 5 => 5 | 80 => 91 | n => n, fun | n => n⟩
theorem Try.lays156 : Go.Proofs.Lays.n156 Try.prog Try.lays156_ren := {
  mixed := by kernel_rfl
  f156 := Try.func160.trans (congrArg some (by kernel_rfl))
  f165 := Try.func161.trans (congrArg some (by kernel_rfl))
  f166 := Try.func162.trans (congrArg some (by kernel_rfl))
  f169 := Try.func163.trans (congrArg some (by kernel_rfl))
  f240 := Try.func164.trans (congrArg some (by kernel_rfl))
  f241 := Try.func165.trans (congrArg some (by kernel_rfl))
  f276 := Try.func166.trans (congrArg some (by kernel_rfl))
  f277 := Try.func167.trans (congrArg some (by kernel_rfl))
  t0 := Try.underlying0
  a0 := Try.isAgg0
  z0 := Try.sizeOf0
  v0 := Try.zeroValue0
  t3 := Try.underlying3
  a3 := Try.isAgg3
  z3 := Try.sizeOf3
  v3 := Try.zeroValue3
  t4 := Try.underlying4
  a4 := Try.isAgg4
  z4 := Try.sizeOf4
  v4 := Try.zeroValue4
  t9 := Try.underlying9
  a9 := Try.isAgg9
  z9 := Try.sizeOf9
  v9 := Try.zeroValue9
  t20 := Try.underlying20
  a20 := Try.isAgg20
  z20 := Try.sizeOf20
  v20 := Try.zeroValue20
  t31 := Try.underlying98
  a31 := Try.isAgg98
  z31 := Try.sizeOf98
  v31 := Try.zeroValue98
  t37 := Try.underlying22
  a37 := Try.isAgg22
  z37 := Try.sizeOf22
  v37 := Try.zeroValue22
  t70 := Try.underlying172
  a70 := Try.isAgg172
  z70 := Try.sizeOf172
  v70 := Try.zeroValue172
  t72 := Try.underlying174
  a72 := Try.isAgg174
  z72 := Try.sizeOf174
  v72 := Try.zeroValue174
  t75 := Try.underlying177
  a75 := Try.isAgg177
  z75 := Try.sizeOf177
  v75 := Try.zeroValue177
  t76 := Try.underlying178
  a76 := Try.isAgg178
  z76 := Try.sizeOf178
  v76 := Try.zeroValue178
  t127 := Try.underlying156
  a127 := Try.isAgg156
  z127 := Try.sizeOf156
  v127 := Try.zeroValue156
  t164 := Try.underlying180
  a164 := Try.isAgg180
  z164 := Try.sizeOf180
  v164 := Try.zeroValue180 }
theorem Try.Builder_Extra_156 : Builder.Extra Try.prog Try.lays156_ren := {
  sizeBuilder := by kernel_rfl
  liesBuilder := by kernel_rfl
  t5 := Try.underlying5
  a5 := Try.isAgg5
  z5 := Try.sizeOf5
  v5 := Try.zeroValue5
  infoByte := by kernel_rfl
  cellsByte := by kernel_rfl
  sizeByte := by kernel_rfl
  neB5 := by decide }
open Go.RowKit in
/-- No element: the empty string; the world is as it was. (Whatever the slice's address and capacity: a nil slice too.) (LAID: no walk: one application.) -/
theorem Try.strings_Join_none (a : Option Addr) (c : Nat) (sep : ByteArray) (w : World) :
    Calls Try.prog 160 #[.slice a 0 c, .string sep] w fun e w' => e = .returned (.string ⟨#[]⟩) ∧ w' = w := Any.strings_Join_none Try.lays156 Try.Builder_Extra_156 a c sep w
open Go.RowKit in
/-- strings.Join: "Join concatenates the elements of its first argument to create a single string. The separator string sep is placed between elements in the resulting string.": HOWEVER MANY ELEMENTS. Below the heap's end the world is as it was. (LAID: no walk: one application.) -/
theorem Try.strings_Join (bk o c : Nat) (xs : List ByteArray) (sep : ByteArray) (w : World) (hcells : ∀ (j : Nat) x, xs[j]? = some x → w.cell? ⟨bk, o + j, none⟩ = some (.string x)) (hbk : bk < w.heap.size) (hN : xs.length ≤ 140737488355328) (hcap : xs.length ≤ c) (hlen : (Lib.join (xs.map (·.data.toList)) sep.data.toList).length ≤ 140737488355328) :
    Calls Try.prog 160 #[.slice (some ⟨bk, o, none⟩) xs.length c, .string sep] w fun e w' => e = .returned (.string ⟨(Lib.join (xs.map (·.data.toList)) sep.data.toList).toArray⟩) ∧ Below w.heap.size w w' := Any.strings_Join Try.lays156 Try.Builder_Extra_156 bk o c xs sep w hcells hbk hN hcap hlen
def Try.lays171_ren : Go.Shelf.Ren := ⟨fun | 171 => 145 | 243 => 146 | 246 => 147 | 283 => 148 | 284 => 149 | 285 => 150 | 286 => 151 | 129 => 153 | 317 => 152 | 318 => 154 | 319 => 155 | 320 => 156 | 337 => 157 | 338 => 158 | n => n, fun | 3 => 3 | 9 => 9 | 2 => 2 | 4 => 4 | 171 => 162 | 0 => 0 | 53 => 146 | 37 => 22 | 5 => 5 | 173 => 164 | 212 => 167 | 51 => 144 | 20 => 20 | 213 => 168 | 46 => 67 | 232 => 169 | 233 => 170 | n => n, fun | 17 => 0 | 18 => 1 | 19 => 2 | n => n⟩
theorem Try.lays171 : Go.Proofs.Lays.n171 Try.prog Try.lays171_ren := {
  mixed := by kernel_rfl
  f129 := Try.func153.trans (congrArg some (by kernel_rfl))
  f171 := Try.func145.trans (congrArg some (by kernel_rfl))
  f243 := Try.func146.trans (congrArg some (by kernel_rfl))
  f246 := Try.func147.trans (congrArg some (by kernel_rfl))
  f283 := Try.func148.trans (congrArg some (by kernel_rfl))
  f284 := Try.func149.trans (congrArg some (by kernel_rfl))
  f285 := Try.func150.trans (congrArg some (by kernel_rfl))
  f286 := Try.func151.trans (congrArg some (by kernel_rfl))
  f317 := Try.func152.trans (congrArg some (by kernel_rfl))
  f318 := Try.func154.trans (congrArg some (by kernel_rfl))
  f319 := Try.func155.trans (congrArg some (by kernel_rfl))
  f320 := Try.func156.trans (congrArg some (by kernel_rfl))
  f337 := Try.func157.trans (congrArg some (by kernel_rfl))
  f338 := Try.func158.trans (congrArg some (by kernel_rfl))
  t0 := Try.underlying0
  a0 := Try.isAgg0
  z0 := Try.sizeOf0
  v0 := Try.zeroValue0
  t2 := Try.underlying2
  a2 := Try.isAgg2
  z2 := Try.sizeOf2
  v2 := Try.zeroValue2
  t3 := Try.underlying3
  a3 := Try.isAgg3
  z3 := Try.sizeOf3
  v3 := Try.zeroValue3
  t4 := Try.underlying4
  a4 := Try.isAgg4
  z4 := Try.sizeOf4
  v4 := Try.zeroValue4
  t5 := Try.underlying5
  a5 := Try.isAgg5
  z5 := Try.sizeOf5
  v5 := Try.zeroValue5
  t9 := Try.underlying9
  a9 := Try.isAgg9
  z9 := Try.sizeOf9
  v9 := Try.zeroValue9
  t20 := Try.underlying20
  a20 := Try.isAgg20
  z20 := Try.sizeOf20
  v20 := Try.zeroValue20
  t37 := Try.underlying22
  a37 := Try.isAgg22
  z37 := Try.sizeOf22
  v37 := Try.zeroValue22
  t46 := Try.underlying67
  a46 := Try.isAgg67
  z46 := Try.sizeOf67
  v46 := Try.zeroValue67
  t51 := Try.underlying144
  a51 := Try.isAgg144
  z51 := Try.sizeOf144
  v51 := Try.zeroValue144
  t53 := Try.underlying146
  a53 := Try.isAgg146
  z53 := Try.sizeOf146
  v53 := Try.zeroValue146
  t171 := Try.underlying162
  a171 := Try.isAgg162
  z171 := Try.sizeOf162
  v171 := Try.zeroValue162
  t173 := Try.underlying164
  a173 := Try.isAgg164
  z173 := Try.sizeOf164
  v173 := Try.zeroValue164
  t212 := Try.underlying167
  a212 := Try.isAgg167
  z212 := Try.sizeOf167
  v212 := Try.zeroValue167
  t213 := Try.underlying168
  a213 := Try.isAgg168
  z213 := Try.sizeOf168
  t232 := Try.underlying169
  a232 := Try.isAgg169
  z232 := Try.sizeOf169
  v232 := Try.zeroValue169
  t233 := Try.underlying170
  a233 := Try.isAgg170
  z233 := Try.sizeOf170
  v233 := Try.zeroValue170
  g17 := by kernel_rfl
  g18 := by kernel_rfl
  g19 := by kernel_rfl }
open Go.RowKit Go.Sort Go.Lib in
/-- THE ROAD WITHOUT THE TABLE: 0 <= i < 100: NO PREMISE ON THE WORLD, AND THE WORLD IS AS IT WAS: a row that keeps its argument in that range need list no table ('laid = []'). (LAID: no walk: one application.) -/
theorem Try.strconv_Itoa_small (i : Nat) (hi : i < 100) (w : World) :
    Calls Try.prog 145 #[.int .i64 i] w fun e w' => e = .returned (.string ⟨(Lib.decDigits i).toArray⟩) ∧ w' = w := Any.strconv_Itoa_small Try.lays171 i hi w
end Go.Proofs
