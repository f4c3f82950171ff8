/- Go's sort of whole numbers in this seat's program. No condition. Printed by a program of ours. -/
import Derived.Test.YtnekkkjedmlloaaS1
import Derived.Test.YtnekkkjedmlloaaProg
namespace Go.Proofs.Ytnekkkjedmlloaa
open Go Go.Abs Go.Shelf Go.Proofs
set_option maxRecDepth 100000
def roF : Nat → Nat
  | 125 => 80
  | 128 => 96
  | 129 => 97
  | 189 => 56
  | 215 => 67
  | 216 => 93
  | 257 => 79
  | 294 => 87
  | 295 => 88
  | 296 => 89
  | 297 => 90
  | 298 => 91
  | 299 => 92
  | 300 => 94
  | 301 => 95
  | 328 => 101
  | 329 => 102
  | 330 => 103
  | 331 => 104
  | 332 => 105
  | 343 => 108
  | _ => 0
def roT : Nat → Nat
  | 0 => 0
  | 3 => 3
  | 4 => 4
  | 5 => 5
  | 9 => 9
  | 28 => 26
  | 46 => 101
  | 51 => 94
  | 53 => 120
  | 131 => 73
  | 182 => 112
  | 183 => 113
  | 218 => 125
  | 222 => 129
  | 228 => 133
  | 229 => 134
  | _ => 0
def ro : Ren := ⟨roF, roT, fun x => x⟩
theorem sortLays : Lays.n189 Try.prog ro where
  mixed := by kernel_rfl
  f125 := by kernel_rfl
  f128 := by kernel_rfl
  f129 := by kernel_rfl
  f189 := by kernel_rfl
  f215 := by kernel_rfl
  f216 := by kernel_rfl
  f257 := by kernel_rfl
  f294 := by kernel_rfl
  f295 := by kernel_rfl
  f296 := by kernel_rfl
  f297 := by kernel_rfl
  f298 := by kernel_rfl
  f299 := by kernel_rfl
  f300 := by kernel_rfl
  f301 := by kernel_rfl
  f328 := by kernel_rfl
  f329 := by kernel_rfl
  f330 := by kernel_rfl
  f331 := by kernel_rfl
  f332 := by kernel_rfl
  f343 := by kernel_rfl
  t0 := Try.underlying0
  a0 := Try.isAgg0
  z0 := Try.sizeOf0
  v0 := Try.zeroValue0
  t3 := Try.underlying3
  a3 := Try.isAgg3
  z3 := Try.sizeOf3
  v3 := Try.zeroValue3
  t4 := Try.underlying4
  a4 := Try.isAgg4
  z4 := Try.sizeOf4
  v4 := Try.zeroValue4
  t5 := Try.underlying5
  a5 := Try.isAgg5
  z5 := Try.sizeOf5
  v5 := Try.zeroValue5
  t9 := Try.underlying9
  a9 := Try.isAgg9
  z9 := Try.sizeOf9
  v9 := Try.zeroValue9
  t28 := Try.underlying26
  a28 := Try.isAgg26
  z28 := Try.sizeOf26
  v28 := Try.zeroValue26
  t46 := Try.underlying101
  a46 := Try.isAgg101
  z46 := Try.sizeOf101
  v46 := Try.zeroValue101
  t51 := Try.underlying94
  a51 := Try.isAgg94
  z51 := Try.sizeOf94
  v51 := Try.zeroValue94
  t53 := Try.underlying120
  a53 := Try.isAgg120
  z53 := Try.sizeOf120
  v53 := Try.zeroValue120
  t131 := Try.underlying73
  a131 := Try.isAgg73
  z131 := Try.sizeOf73
  v131 := Try.zeroValue73
  t182 := Try.underlying112
  a182 := Try.isAgg112
  z182 := Try.sizeOf112
  v182 := Try.zeroValue112
  t183 := Try.underlying113
  a183 := Try.isAgg113
  z183 := Try.sizeOf113
  v183 := Try.zeroValue113
  t218 := Try.underlying125
  a218 := Try.isAgg125
  z218 := Try.sizeOf125
  v218 := Try.zeroValue125
  t222 := Try.underlying129
  a222 := Try.isAgg129
  z222 := Try.sizeOf129
  v222 := Try.zeroValue129
  t228 := Try.underlying133
  a228 := Try.isAgg133
  z228 := Try.sizeOf133
  v228 := Try.zeroValue133
  t229 := Try.underlying134
  a229 := Try.isAgg134
  z229 := Try.sizeOf134
  v229 := Try.zeroValue134
theorem s_slices_Sort_int {h : AH} {b n : Nat} {cap : Option Nat} {zs : List Int} {rest : List AV} (hb : h.blk b = some (i64s zs ++ rest)) (hn : n = zs.length) (hsz : zs.length ≤ 1000000) :
    ACalls Try.prog 56 [.msl b 0 n cap] h fun r h' => r = .tup [] ∧ h' = h.put b (i64s (srt zs) ++ rest) :=
  s_sort sortLays hb hn (by omega) (by kernel_rfl)
end Go.Proofs.Ytnekkkjedmlloaa
