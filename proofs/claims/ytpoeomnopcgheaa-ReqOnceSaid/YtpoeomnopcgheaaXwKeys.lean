/-
  DERIVED: THE SHELF's CONTRACTS AT THIS DUMP, IN PLAIN WORDS (tools/lay-plain.mjs out of 'YtpoeomnopcgheaaKeys.lean', which tools/lay-shelf.mjs wrote): THE SAME DECLARATIONS UNDER THE SAME NAMES: 'import', 'namespace', 'open', 'def', 'theorem' AND NOTHING ELSE: no command of the shelf's: FOR A HAND-IN. Each laying: the table of numbers ('.._ren') and one theorem, a field a fact of the dump's own or the kernel's comparison; each contract: ONE APPLICATION.
-/
import Derived.Shelf.SlIterI.Nil
import Derived.Shelf.SortM.Plain
import Derived.Shelf.SortM.SortNone
import Derived.Ground.GgzProg
import Derived.Ground.SlgmProg
import Derived.Shelf.SlGeneric
import Derived.Test.YtpoeomnopcgheaaProg
namespace Go.Proofs
open Go.Shelf
def Try.keys70_ren : Go.Shelf.Ren := ⟨fun | 7 => 70 | 10 => 101 | n => n, fun | 23 => 121 | 26 => 3 | 3 => 134 | 28 => 130 | 0 => 0 | 27 => 129 | 33 => 37 | 4 => 4 | n => n, fun | n => n⟩
theorem Try.keys70 : Go.Proofs.SlLaysZI.n7 Try.prog Try.keys70_ren := {
  mixed := by kernel_rfl
  f7 := ⟨Try.f70.name, by decide, Try.func70.trans (congrArg some (by kernel_rfl))⟩
  f10 := ⟨Try.f101.name, by decide, Try.func101.trans (congrArg some (by kernel_rfl))⟩
  t0 := Try.underlying0
  a0 := Try.isAgg0
  z0 := Try.sizeOf0
  v0 := Try.zeroValue0
  t4 := Try.underlying4
  a4 := Try.isAgg4
  z4 := Try.sizeOf4
  v4 := Try.zeroValue4
  t23 := Try.underlying121
  a23 := Try.isAgg121
  z23 := Try.sizeOf121
  v23 := Try.zeroValue121
  t26 := Try.underlying3
  a26 := Try.isAgg3
  z26 := Try.sizeOf3
  v26 := Try.zeroValue3
  t27 := Try.underlying129
  a27 := Try.isAgg129
  z27 := Try.sizeOf129
  v27 := Try.zeroValue129
  t28 := Try.underlying130
  a28 := Try.isAgg130
  z28 := Try.sizeOf130
  v28 := Try.zeroValue130
  t33 := Try.underlying37
  a33 := Try.isAgg37
  z33 := Try.sizeOf37
  v33 := Try.zeroValue37 }
def Try.sorted69_ren : Go.Shelf.Ren := ⟨fun | 6 => 69 | 8 => 100 | 9 => 97 | 11 => 129 | 13 => 128 | 12 => 127 | 23 => 146 | 24 => 147 | 14 => 137 | 15 => 138 | 16 => 139 | 17 => 140 | 18 => 141 | 19 => 142 | 20 => 143 | 21 => 144 | 22 => 145 | 25 => 158 | 26 => 159 | 27 => 160 | 28 => 161 | 29 => 162 | 30 => 133 | 31 => 174 | n => n, fun | 26 => 3 | 28 => 130 | 24 => 35 | 0 => 0 | 3 => 3 | 37 => 202 | 48 => 216 | 50 => 30 | 4 => 4 | 40 => 210 | 39 => 209 | 45 => 183 | 5 => 5 | 9 => 9 | 51 => 225 | 55 => 229 | 57 => 238 | 58 => 239 | 33 => 37 | n => n, fun | n => n⟩
theorem Try.sorted69 : Go.Proofs.SlLaysZI.n6 Try.prog Try.sorted69_ren := {
  mixed := by kernel_rfl
  f6 := ⟨Try.f69.name, by decide, Try.func69.trans (congrArg some (by kernel_rfl))⟩
  f8 := ⟨Try.f100.name, by decide, Try.func100.trans (congrArg some (by kernel_rfl))⟩
  f11 := ⟨Try.f129.name, by decide, Try.func129.trans (congrArg some (by kernel_rfl))⟩
  t0 := Try.underlying0
  a0 := Try.isAgg0
  z0 := Try.sizeOf0
  v0 := Try.zeroValue0
  t24 := Try.underlying35
  a24 := Try.isAgg35
  z24 := Try.sizeOf35
  v24 := Try.zeroValue35
  t26 := Try.underlying3
  a26 := Try.isAgg3
  z26 := Try.sizeOf3
  v26 := Try.zeroValue3
  t28 := Try.underlying130
  a28 := Try.isAgg130
  z28 := Try.sizeOf130
  v28 := Try.zeroValue130
  i26 := by kernel_rfl }
def Try.sort97_ren : Go.Shelf.Ren := ⟨fun | 5 => 97 | 8 => 128 | 7 => 127 | 19 => 146 | 20 => 147 | 10 => 137 | 11 => 138 | 12 => 139 | 13 => 140 | 14 => 141 | 15 => 142 | 16 => 143 | 17 => 144 | 18 => 145 | 30 => 158 | 31 => 159 | 32 => 160 | 33 => 161 | 34 => 162 | 35 => 133 | 40 => 174 | n => n, fun | 23 => 35 | 25 => 3 | 3 => 3 | 32 => 202 | 22 => 35 | 0 => 0 | 44 => 216 | 46 => 30 | 4 => 4 | 36 => 210 | 35 => 209 | 41 => 183 | 5 => 5 | 9 => 9 | 53 => 225 | 57 => 229 | 63 => 238 | 64 => 239 | n => n, fun | n => n⟩
theorem Try.sort97 : Go.Proofs.SlLaysM.n5 Try.prog Try.sort97_ren := {
  mixed := by kernel_rfl
  f5 := ⟨Try.f97.name, by decide, Try.func97.trans (congrArg some (by kernel_rfl))⟩
  f7 := ⟨Try.f127.name, by decide, Try.func127.trans (congrArg some (by kernel_rfl))⟩
  f8 := Try.func128.trans (congrArg some (by kernel_rfl))
  f10 := ⟨Try.f137.name, by decide, Try.func137.trans (congrArg some (by kernel_rfl))⟩
  f11 := ⟨Try.f138.name, by decide, Try.func138.trans (congrArg some (by kernel_rfl))⟩
  f12 := ⟨Try.f139.name, by decide, Try.func139.trans (congrArg some (by kernel_rfl))⟩
  f13 := ⟨Try.f140.name, by decide, Try.func140.trans (congrArg some (by kernel_rfl))⟩
  f14 := ⟨Try.f141.name, by decide, Try.func141.trans (congrArg some (by kernel_rfl))⟩
  f15 := ⟨Try.f142.name, by decide, Try.func142.trans (congrArg some (by kernel_rfl))⟩
  f16 := ⟨Try.f143.name, by decide, Try.func143.trans (congrArg some (by kernel_rfl))⟩
  f17 := ⟨Try.f144.name, by decide, Try.func144.trans (congrArg some (by kernel_rfl))⟩
  f18 := ⟨Try.f145.name, by decide, Try.func145.trans (congrArg some (by kernel_rfl))⟩
  f19 := Try.func146.trans (congrArg some (by kernel_rfl))
  f20 := Try.func147.trans (congrArg some (by kernel_rfl))
  f30 := ⟨Try.f158.name, by decide, Try.func158.trans (congrArg some (by kernel_rfl))⟩
  f31 := Try.func159.trans (congrArg some (by kernel_rfl))
  f32 := Try.func160.trans (congrArg some (by kernel_rfl))
  f33 := ⟨Try.f161.name, by decide, Try.func161.trans (congrArg some (by kernel_rfl))⟩
  f34 := ⟨Try.f162.name, by decide, Try.func162.trans (congrArg some (by kernel_rfl))⟩
  f35 := ⟨Try.f133.name, by decide, Try.func133.trans (congrArg some (by kernel_rfl))⟩
  f40 := ⟨Try.f174.name, by decide, Try.func174.trans (congrArg some (by kernel_rfl))⟩
  t0 := Try.underlying0
  a0 := Try.isAgg0
  z0 := Try.sizeOf0
  v0 := Try.zeroValue0
  t3 := Try.underlying3
  a3 := Try.isAgg3
  z3 := Try.sizeOf3
  v3 := Try.zeroValue3
  t4 := Try.underlying4
  a4 := Try.isAgg4
  z4 := Try.sizeOf4
  v4 := Try.zeroValue4
  t5 := Try.underlying5
  a5 := Try.isAgg5
  z5 := Try.sizeOf5
  v5 := Try.zeroValue5
  t9 := Try.underlying9
  a9 := Try.isAgg9
  z9 := Try.sizeOf9
  v9 := Try.zeroValue9
  t22 := Try.underlying35
  a22 := Try.isAgg35
  z22 := Try.sizeOf35
  v22 := Try.zeroValue35
  t23 := Try.underlying35
  a23 := Try.isAgg35
  z23 := Try.sizeOf35
  v23 := Try.zeroValue35
  t25 := Try.underlying3
  a25 := Try.isAgg3
  z25 := Try.sizeOf3
  v25 := Try.zeroValue3
  t32 := Try.underlying202
  a32 := Try.isAgg202
  z32 := Try.sizeOf202
  v32 := Try.zeroValue202
  t35 := Try.underlying209
  a35 := Try.isAgg209
  z35 := Try.sizeOf209
  v35 := Try.zeroValue209
  t36 := Try.underlying210
  a36 := Try.isAgg210
  z36 := Try.sizeOf210
  v36 := Try.zeroValue210
  t41 := Try.underlying183
  a41 := Try.isAgg183
  z41 := Try.sizeOf183
  v41 := Try.zeroValue183
  t44 := Try.underlying216
  a44 := Try.isAgg216
  z44 := Try.sizeOf216
  v44 := Try.zeroValue216
  t46 := Try.underlying30
  a46 := Try.isAgg30
  z46 := Try.sizeOf30
  v46 := Try.zeroValue30
  t53 := Try.underlying225
  a53 := Try.isAgg225
  z53 := Try.sizeOf225
  v53 := Try.zeroValue225
  t57 := Try.underlying229
  a57 := Try.isAgg229
  z57 := Try.sizeOf229
  v57 := Try.zeroValue229
  t63 := Try.underlying238
  a63 := Try.isAgg238
  z63 := Try.sizeOf238
  v63 := Try.zeroValue238
  t64 := Try.underlying239
  a64 := Try.isAgg239
  z64 := Try.sizeOf239
  v64 := Try.zeroValue239 }
end Go.Proofs
