/-
  DERIVED: THE SHELF's CONTRACTS AT THIS DUMP, IN PLAIN WORDS (tools/lay-plain.mjs out of 'YtcaamecdhbgknaaShelf.lean', which tools/lay-shelf.mjs wrote): THE SAME DECLARATIONS UNDER THE SAME NAMES: 'import', 'namespace', 'open', 'def', 'theorem' AND NOTHING ELSE: no command of the shelf's: FOR A HAND-IN. Each laying: the table of numbers ('.._ren') and one theorem, a field a fact of the dump's own or the kernel's comparison; each contract: ONE APPLICATION.
-/
import Derived.Shelf.SlIterI.Nil
import Derived.Shelf.SortM.Plain
import Derived.Shelf.SortM.SortNone
import Derived.Shelf.SlMaps.Clone
import Derived.Ground.GgzProg
import Derived.Ground.SlgmProg
import Derived.Ground.SlmcProg
import Derived.Test.YtcaamecdhbgknaaProg
namespace Go.Proofs
open Go.Shelf
def Try.keysA_ren : Go.Shelf.Ren := ⟨fun | 7 => 58 | 10 => 85 | n => n, fun | 23 => 103 | 26 => 3 | 3 => 107 | 28 => 111 | 0 => 0 | 27 => 110 | 33 => 106 | 4 => 4 | n => n, fun | n => n⟩
theorem Try.keysA : Go.Proofs.SlLaysZI.n7 Try.prog Try.keysA_ren := {
  mixed := by kernel_rfl
  f7 := ⟨Try.f58.name, by decide, Try.func58.trans (congrArg some (by kernel_rfl))⟩
  f10 := ⟨Try.f85.name, by decide, Try.func85.trans (congrArg some (by kernel_rfl))⟩
  t0 := Try.underlying0
  a0 := Try.isAgg0
  z0 := Try.sizeOf0
  v0 := Try.zeroValue0
  t4 := Try.underlying4
  a4 := Try.isAgg4
  z4 := Try.sizeOf4
  v4 := Try.zeroValue4
  t23 := Try.underlying103
  a23 := Try.isAgg103
  z23 := Try.sizeOf103
  v23 := Try.zeroValue103
  t26 := Try.underlying3
  a26 := Try.isAgg3
  z26 := Try.sizeOf3
  v26 := Try.zeroValue3
  t27 := Try.underlying110
  a27 := Try.isAgg110
  z27 := Try.sizeOf110
  v27 := Try.zeroValue110
  t28 := Try.underlying111
  a28 := Try.isAgg111
  z28 := Try.sizeOf111
  v28 := Try.zeroValue111
  t33 := Try.underlying106
  a33 := Try.isAgg106
  z33 := Try.sizeOf106
  v33 := Try.zeroValue106 }
def Try.sortedA_ren : Go.Shelf.Ren := ⟨fun | 6 => 57 | 8 => 83 | 9 => 84 | 11 => 92 | 13 => 94 | 12 => 93 | 23 => 105 | 24 => 106 | 14 => 96 | 15 => 97 | 16 => 98 | 17 => 99 | 18 => 100 | 19 => 101 | 20 => 102 | 21 => 103 | 22 => 104 | 25 => 107 | 26 => 108 | 27 => 109 | 28 => 110 | 29 => 111 | 30 => 112 | 31 => 113 | n => n, fun | 26 => 3 | 28 => 111 | 24 => 34 | 0 => 0 | 3 => 3 | 37 => 24 | 48 => 166 | 50 => 168 | 4 => 4 | 40 => 158 | 39 => 157 | 45 => 163 | 5 => 5 | 9 => 9 | 51 => 169 | 55 => 173 | 57 => 175 | 58 => 148 | 33 => 106 | n => n, fun | n => n⟩
theorem Try.sortedA : Go.Proofs.SlLaysZI.n6 Try.prog Try.sortedA_ren := {
  mixed := by kernel_rfl
  f6 := ⟨Try.f57.name, by decide, Try.func57.trans (congrArg some (by kernel_rfl))⟩
  f8 := ⟨Try.f83.name, by decide, Try.func83.trans (congrArg some (by kernel_rfl))⟩
  f11 := ⟨Try.f92.name, by decide, Try.func92.trans (congrArg some (by kernel_rfl))⟩
  t0 := Try.underlying0
  a0 := Try.isAgg0
  z0 := Try.sizeOf0
  v0 := Try.zeroValue0
  t24 := Try.underlying34
  a24 := Try.isAgg34
  z24 := Try.sizeOf34
  v24 := Try.zeroValue34
  t26 := Try.underlying3
  a26 := Try.isAgg3
  z26 := Try.sizeOf3
  v26 := Try.zeroValue3
  t28 := Try.underlying111
  a28 := Try.isAgg111
  z28 := Try.sizeOf111
  v28 := Try.zeroValue111
  i26 := by kernel_rfl }
def Try.sortA_ren : Go.Shelf.Ren := ⟨fun | 5 => 84 | 8 => 94 | 7 => 93 | 19 => 105 | 20 => 106 | 10 => 96 | 11 => 97 | 12 => 98 | 13 => 99 | 14 => 100 | 15 => 101 | 16 => 102 | 17 => 103 | 18 => 104 | 30 => 107 | 31 => 108 | 32 => 109 | 33 => 110 | 34 => 111 | 35 => 112 | 40 => 113 | n => n, fun | 23 => 34 | 25 => 3 | 3 => 3 | 32 => 24 | 22 => 34 | 0 => 0 | 44 => 166 | 46 => 168 | 4 => 4 | 36 => 158 | 35 => 157 | 41 => 163 | 5 => 5 | 9 => 9 | 53 => 169 | 57 => 173 | 63 => 175 | 64 => 148 | n => n, fun | n => n⟩
theorem Try.sortA : Go.Proofs.SlLaysM.n5 Try.prog Try.sortA_ren := {
  mixed := by kernel_rfl
  f5 := ⟨Try.f84.name, by decide, Try.func84.trans (congrArg some (by kernel_rfl))⟩
  f7 := ⟨Try.f93.name, by decide, Try.func93.trans (congrArg some (by kernel_rfl))⟩
  f8 := Try.func94.trans (congrArg some (by kernel_rfl))
  f10 := ⟨Try.f96.name, by decide, Try.func96.trans (congrArg some (by kernel_rfl))⟩
  f11 := ⟨Try.f97.name, by decide, Try.func97.trans (congrArg some (by kernel_rfl))⟩
  f12 := ⟨Try.f98.name, by decide, Try.func98.trans (congrArg some (by kernel_rfl))⟩
  f13 := ⟨Try.f99.name, by decide, Try.func99.trans (congrArg some (by kernel_rfl))⟩
  f14 := ⟨Try.f100.name, by decide, Try.func100.trans (congrArg some (by kernel_rfl))⟩
  f15 := ⟨Try.f101.name, by decide, Try.func101.trans (congrArg some (by kernel_rfl))⟩
  f16 := ⟨Try.f102.name, by decide, Try.func102.trans (congrArg some (by kernel_rfl))⟩
  f17 := ⟨Try.f103.name, by decide, Try.func103.trans (congrArg some (by kernel_rfl))⟩
  f18 := ⟨Try.f104.name, by decide, Try.func104.trans (congrArg some (by kernel_rfl))⟩
  f19 := Try.func105.trans (congrArg some (by kernel_rfl))
  f20 := Try.func106.trans (congrArg some (by kernel_rfl))
  f30 := ⟨Try.f107.name, by decide, Try.func107.trans (congrArg some (by kernel_rfl))⟩
  f31 := Try.func108.trans (congrArg some (by kernel_rfl))
  f32 := Try.func109.trans (congrArg some (by kernel_rfl))
  f33 := ⟨Try.f110.name, by decide, Try.func110.trans (congrArg some (by kernel_rfl))⟩
  f34 := ⟨Try.f111.name, by decide, Try.func111.trans (congrArg some (by kernel_rfl))⟩
  f35 := ⟨Try.f112.name, by decide, Try.func112.trans (congrArg some (by kernel_rfl))⟩
  f40 := ⟨Try.f113.name, by decide, Try.func113.trans (congrArg some (by kernel_rfl))⟩
  t0 := Try.underlying0
  a0 := Try.isAgg0
  z0 := Try.sizeOf0
  v0 := Try.zeroValue0
  t3 := Try.underlying3
  a3 := Try.isAgg3
  z3 := Try.sizeOf3
  v3 := Try.zeroValue3
  t4 := Try.underlying4
  a4 := Try.isAgg4
  z4 := Try.sizeOf4
  v4 := Try.zeroValue4
  t5 := Try.underlying5
  a5 := Try.isAgg5
  z5 := Try.sizeOf5
  v5 := Try.zeroValue5
  t9 := Try.underlying9
  a9 := Try.isAgg9
  z9 := Try.sizeOf9
  v9 := Try.zeroValue9
  t22 := Try.underlying34
  a22 := Try.isAgg34
  z22 := Try.sizeOf34
  v22 := Try.zeroValue34
  t23 := Try.underlying34
  a23 := Try.isAgg34
  z23 := Try.sizeOf34
  v23 := Try.zeroValue34
  t25 := Try.underlying3
  a25 := Try.isAgg3
  z25 := Try.sizeOf3
  v25 := Try.zeroValue3
  t32 := Try.underlying24
  a32 := Try.isAgg24
  z32 := Try.sizeOf24
  v32 := Try.zeroValue24
  t35 := Try.underlying157
  a35 := Try.isAgg157
  z35 := Try.sizeOf157
  v35 := Try.zeroValue157
  t36 := Try.underlying158
  a36 := Try.isAgg158
  z36 := Try.sizeOf158
  v36 := Try.zeroValue158
  t41 := Try.underlying163
  a41 := Try.isAgg163
  z41 := Try.sizeOf163
  v41 := Try.zeroValue163
  t44 := Try.underlying166
  a44 := Try.isAgg166
  z44 := Try.sizeOf166
  v44 := Try.zeroValue166
  t46 := Try.underlying168
  a46 := Try.isAgg168
  z46 := Try.sizeOf168
  v46 := Try.zeroValue168
  t53 := Try.underlying169
  a53 := Try.isAgg169
  z53 := Try.sizeOf169
  v53 := Try.zeroValue169
  t57 := Try.underlying173
  a57 := Try.isAgg173
  z57 := Try.sizeOf173
  v57 := Try.zeroValue173
  t63 := Try.underlying175
  a63 := Try.isAgg175
  z63 := Try.sizeOf175
  v63 := Try.zeroValue175
  t64 := Try.underlying148
  a64 := Try.isAgg148
  z64 := Try.sizeOf148
  v64 := Try.zeroValue148 }
def Try.cloneM_ren : Go.Shelf.Ren := ⟨fun | 5 => 60 | 7 => 86 | n => n, fun | 23 => 103 | 25 => 3 | 3 => 107 | 4 => 4 | 20 => 20 | n => n, fun | n => n⟩
theorem Try.cloneM : Go.Proofs.SlLaysW.n5 Try.prog Try.cloneM_ren := {
  mixed := by kernel_rfl
  f5 := ⟨Try.f60.name, by decide, Try.func60.trans (congrArg some (by kernel_rfl))⟩
  f7 := Try.func86.trans (congrArg some (by kernel_rfl))
  t4 := Try.underlying4
  a4 := Try.isAgg4
  z4 := Try.sizeOf4
  v4 := Try.zeroValue4
  t20 := Try.underlying20
  a20 := Try.isAgg20
  z20 := Try.sizeOf20
  v20 := Try.zeroValue20
  t23 := Try.underlying103
  a23 := Try.isAgg103
  z23 := Try.sizeOf103
  v23 := Try.zeroValue103 }
end Go.Proofs
