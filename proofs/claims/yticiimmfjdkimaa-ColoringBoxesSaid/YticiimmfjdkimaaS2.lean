/- Go's sort of whole numbers in this seat's program. No condition. Printed by a program of ours. -/
import Derived.Test.YticiimmfjdkimaaS1
import Derived.Test.YticiimmfjdkimaaProg
namespace Go.Proofs.Yticiimmfjdkimaa
open Go Go.Abs Go.Shelf Go.Proofs
set_option maxRecDepth 100000
def roF : Nat → Nat
  | 125 => 74
  | 128 => 86
  | 129 => 87
  | 189 => 64
  | 215 => 93
  | 216 => 83
  | 257 => 73
  | 294 => 77
  | 295 => 78
  | 296 => 79
  | 297 => 80
  | 298 => 81
  | 299 => 82
  | 300 => 84
  | 301 => 85
  | 328 => 88
  | 329 => 89
  | 330 => 90
  | 331 => 91
  | 332 => 92
  | 343 => 94
  | _ => 0
def roT : Nat → Nat
  | 0 => 0
  | 3 => 3
  | 4 => 4
  | 5 => 5
  | 9 => 9
  | 28 => 28
  | 46 => 79
  | 51 => 88
  | 53 => 91
  | 131 => 100
  | 182 => 95
  | 183 => 96
  | 218 => 104
  | 222 => 108
  | 228 => 110
  | 229 => 111
  | _ => 0
def ro : Ren := ⟨roF, roT, fun x => x⟩
theorem sortLays : Lays.n189 Try.prog ro where
  mixed := by kernel_rfl
  f125 := by kernel_rfl
  f128 := by kernel_rfl
  f129 := by kernel_rfl
  f189 := by kernel_rfl
  f215 := by kernel_rfl
  f216 := by kernel_rfl
  f257 := by kernel_rfl
  f294 := by kernel_rfl
  f295 := by kernel_rfl
  f296 := by kernel_rfl
  f297 := by kernel_rfl
  f298 := by kernel_rfl
  f299 := by kernel_rfl
  f300 := by kernel_rfl
  f301 := by kernel_rfl
  f328 := by kernel_rfl
  f329 := by kernel_rfl
  f330 := by kernel_rfl
  f331 := by kernel_rfl
  f332 := by kernel_rfl
  f343 := by kernel_rfl
  t0 := Try.underlying0
  a0 := Try.isAgg0
  z0 := Try.sizeOf0
  v0 := Try.zeroValue0
  t3 := Try.underlying3
  a3 := Try.isAgg3
  z3 := Try.sizeOf3
  v3 := Try.zeroValue3
  t4 := Try.underlying4
  a4 := Try.isAgg4
  z4 := Try.sizeOf4
  v4 := Try.zeroValue4
  t5 := Try.underlying5
  a5 := Try.isAgg5
  z5 := Try.sizeOf5
  v5 := Try.zeroValue5
  t9 := Try.underlying9
  a9 := Try.isAgg9
  z9 := Try.sizeOf9
  v9 := Try.zeroValue9
  t28 := Try.underlying28
  a28 := Try.isAgg28
  z28 := Try.sizeOf28
  v28 := Try.zeroValue28
  t46 := Try.underlying79
  a46 := Try.isAgg79
  z46 := Try.sizeOf79
  v46 := Try.zeroValue79
  t51 := Try.underlying88
  a51 := Try.isAgg88
  z51 := Try.sizeOf88
  v51 := Try.zeroValue88
  t53 := Try.underlying91
  a53 := Try.isAgg91
  z53 := Try.sizeOf91
  v53 := Try.zeroValue91
  t131 := Try.underlying100
  a131 := Try.isAgg100
  z131 := Try.sizeOf100
  v131 := Try.zeroValue100
  t182 := Try.underlying95
  a182 := Try.isAgg95
  z182 := Try.sizeOf95
  v182 := Try.zeroValue95
  t183 := Try.underlying96
  a183 := Try.isAgg96
  z183 := Try.sizeOf96
  v183 := Try.zeroValue96
  t218 := Try.underlying104
  a218 := Try.isAgg104
  z218 := Try.sizeOf104
  v218 := Try.zeroValue104
  t222 := Try.underlying108
  a222 := Try.isAgg108
  z222 := Try.sizeOf108
  v222 := Try.zeroValue108
  t228 := Try.underlying110
  a228 := Try.isAgg110
  z228 := Try.sizeOf110
  v228 := Try.zeroValue110
  t229 := Try.underlying111
  a229 := Try.isAgg111
  z229 := Try.sizeOf111
  v229 := Try.zeroValue111
theorem s_slices_Sort_int {h : AH} {b n : Nat} {cap : Option Nat} {zs : List Int} {rest : List AV} (hb : h.blk b = some (i64s zs ++ rest)) (hn : n = zs.length) (hsz : zs.length ≤ 1000000) :
    ACalls Try.prog 64 [.msl b 0 n cap] h fun r h' => r = .tup [] ∧ h' = h.put b (i64s (srt zs) ++ rest) :=
  s_sort sortLays hb hn (by omega) (by kernel_rfl)
end Go.Proofs.Yticiimmfjdkimaa
