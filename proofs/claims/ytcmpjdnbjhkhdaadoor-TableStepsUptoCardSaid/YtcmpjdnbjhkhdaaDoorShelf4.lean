/-
  DERIVED: THE SHELF's CONTRACTS AT THIS DUMP, IN PLAIN WORDS (tools/lay-plain.mjs out of 'TrydShelf4.lean', which tools/lay-shelf.mjs wrote): THE SAME DECLARATIONS UNDER THE SAME NAMES: 'import', 'namespace', 'open', 'def', 'theorem' AND NOTHING ELSE: no command of the shelf's: FOR A HAND-IN. Each laying: the table of numbers ('.._ren') and one theorem, a field a fact of the dump's own or the kernel's comparison; each contract: ONE APPLICATION.
-/
import Derived.Shelf.SlGeneric
import Derived.Shelf.SlSortCmp.NoneTotal
import Derived.Ground.SlsfProg
import Derived.Test.YtcmpjdnbjhkhdaaDoorProg
namespace Go.Proofs
open Go.Shelf
def Tryd.sortRow_ren : Go.Shelf.Ren := ⟨fun | 6 => 102 | 15 => 115 | 14 => 129 | 28 => 144 | 29 => 145 | 20 => 158 | 21 => 159 | 22 => 160 | 23 => 161 | 24 => 162 | 25 => 163 | 26 => 164 | 27 => 165 | 46 => 176 | 47 => 169 | 48 => 170 | 49 => 177 | 50 => 178 | 57 => 181 | n => n, fun | 22 => 73 | 24 => 79 | 25 => 185 | 3 => 3 | 39 => 128 | 0 => 0 | 53 => 239 | 55 => 174 | 4 => 4 | 46 => 232 | 45 => 231 | 50 => 133 | 5 => 5 | 9 => 9 | 66 => 255 | 70 => 259 | 76 => 267 | 77 => 268 | n => n, fun | n => n⟩
theorem Tryd.sortRow : Go.Proofs.SlLaysF0.n6 Tryd.prog Tryd.sortRow_ren := {
  mixed := by kernel_rfl
  f6 := ⟨Tryd.f102.name, by decide, Tryd.func102.trans (congrArg some (by kernel_rfl))⟩
  f14 := ⟨Tryd.f129.name, by decide, Tryd.func129.trans (congrArg some (by kernel_rfl))⟩
  f15 := Tryd.func115.trans (congrArg some (by kernel_rfl))
  f20 := ⟨Tryd.f158.name, by decide, Tryd.func158.trans (congrArg some (by kernel_rfl))⟩
  f21 := ⟨Tryd.f159.name, by decide, Tryd.func159.trans (congrArg some (by kernel_rfl))⟩
  f22 := ⟨Tryd.f160.name, by decide, Tryd.func160.trans (congrArg some (by kernel_rfl))⟩
  f23 := ⟨Tryd.f161.name, by decide, Tryd.func161.trans (congrArg some (by kernel_rfl))⟩
  f24 := ⟨Tryd.f162.name, by decide, Tryd.func162.trans (congrArg some (by kernel_rfl))⟩
  f25 := ⟨Tryd.f163.name, by decide, Tryd.func163.trans (congrArg some (by kernel_rfl))⟩
  f26 := ⟨Tryd.f164.name, by decide, Tryd.func164.trans (congrArg some (by kernel_rfl))⟩
  f27 := ⟨Tryd.f165.name, by decide, Tryd.func165.trans (congrArg some (by kernel_rfl))⟩
  f28 := Tryd.func144.trans (congrArg some (by kernel_rfl))
  f29 := Tryd.func145.trans (congrArg some (by kernel_rfl))
  f46 := ⟨Tryd.f176.name, by decide, Tryd.func176.trans (congrArg some (by kernel_rfl))⟩
  f47 := Tryd.func169.trans (congrArg some (by kernel_rfl))
  f48 := Tryd.func170.trans (congrArg some (by kernel_rfl))
  f49 := ⟨Tryd.f177.name, by decide, Tryd.func177.trans (congrArg some (by kernel_rfl))⟩
  f50 := ⟨Tryd.f178.name, by decide, Tryd.func178.trans (congrArg some (by kernel_rfl))⟩
  f57 := ⟨Tryd.f181.name, by decide, Tryd.func181.trans (congrArg some (by kernel_rfl))⟩
  t0 := Tryd.underlying0
  a0 := Tryd.isAgg0
  z0 := Tryd.sizeOf0
  v0 := Tryd.zeroValue0
  t3 := Tryd.underlying3
  a3 := Tryd.isAgg3
  z3 := Tryd.sizeOf3
  v3 := Tryd.zeroValue3
  t4 := Tryd.underlying4
  a4 := Tryd.isAgg4
  z4 := Tryd.sizeOf4
  v4 := Tryd.zeroValue4
  t5 := Tryd.underlying5
  a5 := Tryd.isAgg5
  z5 := Tryd.sizeOf5
  v5 := Tryd.zeroValue5
  t9 := Tryd.underlying9
  a9 := Tryd.isAgg9
  z9 := Tryd.sizeOf9
  v9 := Tryd.zeroValue9
  t22 := Tryd.underlying73
  a22 := Tryd.isAgg73
  z22 := Tryd.sizeOf73
  v22 := Tryd.zeroValue73
  t25 := Tryd.underlying185
  a25 := Tryd.isAgg185
  z25 := Tryd.sizeOf185
  v25 := Tryd.zeroValue185
  t39 := Tryd.underlying128
  a39 := Tryd.isAgg128
  z39 := Tryd.sizeOf128
  v39 := Tryd.zeroValue128
  t45 := Tryd.underlying231
  a45 := Tryd.isAgg231
  z45 := Tryd.sizeOf231
  v45 := Tryd.zeroValue231
  t46 := Tryd.underlying232
  a46 := Tryd.isAgg232
  z46 := Tryd.sizeOf232
  v46 := Tryd.zeroValue232
  t50 := Tryd.underlying133
  a50 := Tryd.isAgg133
  z50 := Tryd.sizeOf133
  v50 := Tryd.zeroValue133
  t53 := Tryd.underlying239
  a53 := Tryd.isAgg239
  z53 := Tryd.sizeOf239
  v53 := Tryd.zeroValue239
  t55 := Tryd.underlying174
  a55 := Tryd.isAgg174
  z55 := Tryd.sizeOf174
  v55 := Tryd.zeroValue174
  t66 := Tryd.underlying255
  a66 := Tryd.isAgg255
  z66 := Tryd.sizeOf255
  v66 := Tryd.zeroValue255
  t70 := Tryd.underlying259
  a70 := Tryd.isAgg259
  z70 := Tryd.sizeOf259
  v70 := Tryd.zeroValue259
  t76 := Tryd.underlying267
  a76 := Tryd.isAgg267
  z76 := Tryd.sizeOf267
  v76 := Tryd.zeroValue267
  t77 := Tryd.underlying268
  a77 := Tryd.isAgg268
  z77 := Tryd.sizeOf268
  v77 := Tryd.zeroValue268 }
end Go.Proofs
