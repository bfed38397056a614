/-
  DERIVED: THE SHELF's CONTRACTS AT THIS DUMP, IN PLAIN WORDS (tools/lay-plain.mjs out of 'YtpbicdbicikniaaShelf.lean', which tools/lay-shelf.mjs wrote): THE SAME DECLARATIONS UNDER THE SAME NAMES: 'import', 'namespace', 'open', 'def', 'theorem' AND NOTHING ELSE: no command of the shelf's: FOR A HAND-IN. Each laying: the table of numbers ('.._ren') and one theorem, a field a fact of the dump's own or the kernel's comparison; each contract: ONE APPLICATION.
-/
import Derived.Shelf.SlGeneric
import Derived.Shelf.SlIterI.Nil
import Derived.Shelf.SortM.Plain
import Derived.Shelf.SortM.SortNone
import Derived.Ground.GgzProg
import Derived.Ground.SlgmProg
import Derived.Ground.Names2Prog
import Derived.Shelf.Bits.Mul64
import Derived.Test.YtpbicdbicikniaaProg
namespace Go.Proofs
open Go.Shelf
def Try.lays264_ren : Go.Shelf.Ren := ⟨fun | 264 => 120 | n => n, fun | 53 => 45 | 46 => 143 | n => n, fun | n => n⟩
theorem Try.lays264 : Go.Proofs.Lays.n264 Try.prog Try.lays264_ren := {
  mixed := by kernel_rfl
  f264 := Try.func120.trans (congrArg some (by kernel_rfl))
  t46 := Try.underlying143
  a46 := Try.isAgg143
  z46 := Try.sizeOf143
  v46 := Try.zeroValue143
  t53 := Try.underlying45
  a53 := Try.isAgg45
  z53 := Try.sizeOf45
  v53 := Try.zeroValue45 }
def Try.lays212_ren : Go.Shelf.Ren := ⟨fun | 212 => 82 | 263 => 119 | 264 => 120 | n => n, fun | 46 => 143 | 51 => 178 | 146 => 179 | 53 => 45 | 148 => 181 | n => n, fun | n => n⟩
theorem Try.lays212 : Go.Proofs.Lays.n212 Try.prog Try.lays212_ren := {
  mixed := by kernel_rfl
  f212 := Try.func82.trans (congrArg some (by kernel_rfl))
  f263 := Try.func119.trans (congrArg some (by kernel_rfl))
  f264 := Try.func120.trans (congrArg some (by kernel_rfl))
  t46 := Try.underlying143
  a46 := Try.isAgg143
  z46 := Try.sizeOf143
  v46 := Try.zeroValue143
  t51 := Try.underlying178
  a51 := Try.isAgg178
  z51 := Try.sizeOf178
  v51 := Try.zeroValue178
  t53 := Try.underlying45
  a53 := Try.isAgg45
  z53 := Try.sizeOf45
  v53 := Try.zeroValue45
  t146 := Try.underlying179
  a146 := Try.isAgg179
  z146 := Try.sizeOf179
  v146 := Try.zeroValue179
  t148 := Try.underlying181
  a148 := Try.isAgg181
  z148 := Try.sizeOf181
  v148 := Try.zeroValue181 }
def Try.keysA_ren : Go.Shelf.Ren := ⟨fun | 7 => 143 | 10 => 159 | n => n, fun | 23 => 174 | 26 => 3 | 3 => 3 | 28 => 188 | 0 => 0 | 27 => 187 | 33 => 48 | 4 => 4 | n => n, fun | n => n⟩
theorem Try.keysA : Go.Proofs.SlLaysZI.n7 Try.prog Try.keysA_ren := {
  mixed := by kernel_rfl
  f7 := ⟨Try.f143.name, by decide, Try.func143.trans (congrArg some (by kernel_rfl))⟩
  f10 := ⟨Try.f159.name, by decide, Try.func159.trans (congrArg some (by kernel_rfl))⟩
  t0 := Try.underlying0
  a0 := Try.isAgg0
  z0 := Try.sizeOf0
  v0 := Try.zeroValue0
  t4 := Try.underlying4
  a4 := Try.isAgg4
  z4 := Try.sizeOf4
  v4 := Try.zeroValue4
  t23 := Try.underlying174
  a23 := Try.isAgg174
  z23 := Try.sizeOf174
  v23 := Try.zeroValue174
  t26 := Try.underlying3
  a26 := Try.isAgg3
  z26 := Try.sizeOf3
  v26 := Try.zeroValue3
  t27 := Try.underlying187
  a27 := Try.isAgg187
  z27 := Try.sizeOf187
  v27 := Try.zeroValue187
  t28 := Try.underlying188
  a28 := Try.isAgg188
  z28 := Try.sizeOf188
  v28 := Try.zeroValue188
  t33 := Try.underlying48
  a33 := Try.isAgg48
  z33 := Try.sizeOf48
  v33 := Try.zeroValue48 }
def Try.sortedA_ren : Go.Shelf.Ren := ⟨fun | 6 => 125 | 8 => 150 | 9 => 64 | 11 => 160 | 13 => 101 | 12 => 100 | 23 => 138 | 24 => 139 | 14 => 129 | 15 => 130 | 16 => 131 | 17 => 132 | 18 => 133 | 19 => 134 | 20 => 135 | 21 => 136 | 22 => 137 | 25 => 153 | 26 => 154 | 27 => 155 | 28 => 156 | 29 => 157 | 30 => 158 | 31 => 162 | n => n, fun | 26 => 3 | 28 => 188 | 24 => 24 | 0 => 0 | 3 => 3 | 37 => 143 | 48 => 178 | 50 => 45 | 4 => 4 | 40 => 194 | 39 => 193 | 45 => 151 | 5 => 5 | 9 => 9 | 51 => 207 | 55 => 211 | 57 => 214 | 58 => 215 | 33 => 48 | n => n, fun | n => n⟩
theorem Try.sortedA : Go.Proofs.SlLaysZI.n6 Try.prog Try.sortedA_ren := {
  mixed := by kernel_rfl
  f6 := ⟨Try.f125.name, by decide, Try.func125.trans (congrArg some (by kernel_rfl))⟩
  f8 := ⟨Try.f150.name, by decide, Try.func150.trans (congrArg some (by kernel_rfl))⟩
  f11 := ⟨Try.f160.name, by decide, Try.func160.trans (congrArg some (by kernel_rfl))⟩
  t0 := Try.underlying0
  a0 := Try.isAgg0
  z0 := Try.sizeOf0
  v0 := Try.zeroValue0
  t24 := Try.underlying24
  a24 := Try.isAgg24
  z24 := Try.sizeOf24
  v24 := Try.zeroValue24
  t26 := Try.underlying3
  a26 := Try.isAgg3
  z26 := Try.sizeOf3
  v26 := Try.zeroValue3
  t28 := Try.underlying188
  a28 := Try.isAgg188
  z28 := Try.sizeOf188
  v28 := Try.zeroValue188
  i26 := by kernel_rfl }
def Try.sortA_ren : Go.Shelf.Ren := ⟨fun | 5 => 64 | 8 => 101 | 7 => 100 | 19 => 138 | 20 => 139 | 10 => 129 | 11 => 130 | 12 => 131 | 13 => 132 | 14 => 133 | 15 => 134 | 16 => 135 | 17 => 136 | 18 => 137 | 30 => 153 | 31 => 154 | 32 => 155 | 33 => 156 | 34 => 157 | 35 => 158 | 40 => 162 | n => n, fun | 23 => 24 | 25 => 3 | 3 => 3 | 32 => 143 | 22 => 24 | 0 => 0 | 44 => 178 | 46 => 45 | 4 => 4 | 36 => 194 | 35 => 193 | 41 => 151 | 5 => 5 | 9 => 9 | 53 => 207 | 57 => 211 | 63 => 214 | 64 => 215 | n => n, fun | n => n⟩
theorem Try.sortA : Go.Proofs.SlLaysM.n5 Try.prog Try.sortA_ren := {
  mixed := by kernel_rfl
  f5 := ⟨Try.f64.name, by decide, Try.func64.trans (congrArg some (by kernel_rfl))⟩
  f7 := ⟨Try.f100.name, by decide, Try.func100.trans (congrArg some (by kernel_rfl))⟩
  f8 := Try.func101.trans (congrArg some (by kernel_rfl))
  f10 := ⟨Try.f129.name, by decide, Try.func129.trans (congrArg some (by kernel_rfl))⟩
  f11 := ⟨Try.f130.name, by decide, Try.func130.trans (congrArg some (by kernel_rfl))⟩
  f12 := ⟨Try.f131.name, by decide, Try.func131.trans (congrArg some (by kernel_rfl))⟩
  f13 := ⟨Try.f132.name, by decide, Try.func132.trans (congrArg some (by kernel_rfl))⟩
  f14 := ⟨Try.f133.name, by decide, Try.func133.trans (congrArg some (by kernel_rfl))⟩
  f15 := ⟨Try.f134.name, by decide, Try.func134.trans (congrArg some (by kernel_rfl))⟩
  f16 := ⟨Try.f135.name, by decide, Try.func135.trans (congrArg some (by kernel_rfl))⟩
  f17 := ⟨Try.f136.name, by decide, Try.func136.trans (congrArg some (by kernel_rfl))⟩
  f18 := ⟨Try.f137.name, by decide, Try.func137.trans (congrArg some (by kernel_rfl))⟩
  f19 := Try.func138.trans (congrArg some (by kernel_rfl))
  f20 := Try.func139.trans (congrArg some (by kernel_rfl))
  f30 := ⟨Try.f153.name, by decide, Try.func153.trans (congrArg some (by kernel_rfl))⟩
  f31 := Try.func154.trans (congrArg some (by kernel_rfl))
  f32 := Try.func155.trans (congrArg some (by kernel_rfl))
  f33 := ⟨Try.f156.name, by decide, Try.func156.trans (congrArg some (by kernel_rfl))⟩
  f34 := ⟨Try.f157.name, by decide, Try.func157.trans (congrArg some (by kernel_rfl))⟩
  f35 := ⟨Try.f158.name, by decide, Try.func158.trans (congrArg some (by kernel_rfl))⟩
  f40 := ⟨Try.f162.name, by decide, Try.func162.trans (congrArg some (by kernel_rfl))⟩
  t0 := Try.underlying0
  a0 := Try.isAgg0
  z0 := Try.sizeOf0
  v0 := Try.zeroValue0
  t3 := Try.underlying3
  a3 := Try.isAgg3
  z3 := Try.sizeOf3
  v3 := Try.zeroValue3
  t4 := Try.underlying4
  a4 := Try.isAgg4
  z4 := Try.sizeOf4
  v4 := Try.zeroValue4
  t5 := Try.underlying5
  a5 := Try.isAgg5
  z5 := Try.sizeOf5
  v5 := Try.zeroValue5
  t9 := Try.underlying9
  a9 := Try.isAgg9
  z9 := Try.sizeOf9
  v9 := Try.zeroValue9
  t22 := Try.underlying24
  a22 := Try.isAgg24
  z22 := Try.sizeOf24
  v22 := Try.zeroValue24
  t23 := Try.underlying24
  a23 := Try.isAgg24
  z23 := Try.sizeOf24
  v23 := Try.zeroValue24
  t25 := Try.underlying3
  a25 := Try.isAgg3
  z25 := Try.sizeOf3
  v25 := Try.zeroValue3
  t32 := Try.underlying143
  a32 := Try.isAgg143
  z32 := Try.sizeOf143
  v32 := Try.zeroValue143
  t35 := Try.underlying193
  a35 := Try.isAgg193
  z35 := Try.sizeOf193
  v35 := Try.zeroValue193
  t36 := Try.underlying194
  a36 := Try.isAgg194
  z36 := Try.sizeOf194
  v36 := Try.zeroValue194
  t41 := Try.underlying151
  a41 := Try.isAgg151
  z41 := Try.sizeOf151
  v41 := Try.zeroValue151
  t44 := Try.underlying178
  a44 := Try.isAgg178
  z44 := Try.sizeOf178
  v44 := Try.zeroValue178
  t46 := Try.underlying45
  a46 := Try.isAgg45
  z46 := Try.sizeOf45
  v46 := Try.zeroValue45
  t53 := Try.underlying207
  a53 := Try.isAgg207
  z53 := Try.sizeOf207
  v53 := Try.zeroValue207
  t57 := Try.underlying211
  a57 := Try.isAgg211
  z57 := Try.sizeOf211
  v57 := Try.zeroValue211
  t63 := Try.underlying214
  a63 := Try.isAgg214
  z63 := Try.sizeOf214
  v63 := Try.zeroValue214
  t64 := Try.underlying215
  a64 := Try.isAgg215
  z64 := Try.sizeOf215
  v64 := Try.zeroValue215 }
end Go.Proofs
