/- Go's sort of whole numbers in this seat's program. No condition. Printed by a program of ours. -/
import Derived.Test.YtemfmnjhhdeedaaS1
import Derived.Test.YtemfmnjhhdeedaaProg
namespace Go.Proofs.Ytemfmnjhhdeedaa
open Go Go.Abs Go.Shelf Go.Proofs
set_option maxRecDepth 100000
def roF : Nat → Nat
  | 125 => 74
  | 128 => 86
  | 129 => 87
  | 189 => 63
  | 215 => 94
  | 216 => 83
  | 257 => 73
  | 294 => 77
  | 295 => 78
  | 296 => 79
  | 297 => 80
  | 298 => 81
  | 299 => 82
  | 300 => 84
  | 301 => 85
  | 328 => 89
  | 329 => 90
  | 330 => 91
  | 331 => 92
  | 332 => 93
  | 343 => 95
  | _ => 0
def roT : Nat → Nat
  | 0 => 0
  | 3 => 3
  | 4 => 4
  | 5 => 5
  | 9 => 9
  | 28 => 23
  | 46 => 90
  | 51 => 86
  | 53 => 103
  | 131 => 99
  | 182 => 94
  | 183 => 95
  | 218 => 105
  | 222 => 109
  | 228 => 111
  | 229 => 112
  | _ => 0
def ro : Ren := ⟨roF, roT, fun x => x⟩
theorem sortLays : Lays.n189 Try.prog ro where
  mixed := by kernel_rfl
  f125 := by kernel_rfl
  f128 := by kernel_rfl
  f129 := by kernel_rfl
  f189 := by kernel_rfl
  f215 := by kernel_rfl
  f216 := by kernel_rfl
  f257 := by kernel_rfl
  f294 := by kernel_rfl
  f295 := by kernel_rfl
  f296 := by kernel_rfl
  f297 := by kernel_rfl
  f298 := by kernel_rfl
  f299 := by kernel_rfl
  f300 := by kernel_rfl
  f301 := by kernel_rfl
  f328 := by kernel_rfl
  f329 := by kernel_rfl
  f330 := by kernel_rfl
  f331 := by kernel_rfl
  f332 := by kernel_rfl
  f343 := by kernel_rfl
  t0 := Try.underlying0
  a0 := Try.isAgg0
  z0 := Try.sizeOf0
  v0 := Try.zeroValue0
  t3 := Try.underlying3
  a3 := Try.isAgg3
  z3 := Try.sizeOf3
  v3 := Try.zeroValue3
  t4 := Try.underlying4
  a4 := Try.isAgg4
  z4 := Try.sizeOf4
  v4 := Try.zeroValue4
  t5 := Try.underlying5
  a5 := Try.isAgg5
  z5 := Try.sizeOf5
  v5 := Try.zeroValue5
  t9 := Try.underlying9
  a9 := Try.isAgg9
  z9 := Try.sizeOf9
  v9 := Try.zeroValue9
  t28 := Try.underlying23
  a28 := Try.isAgg23
  z28 := Try.sizeOf23
  v28 := Try.zeroValue23
  t46 := Try.underlying90
  a46 := Try.isAgg90
  z46 := Try.sizeOf90
  v46 := Try.zeroValue90
  t51 := Try.underlying86
  a51 := Try.isAgg86
  z51 := Try.sizeOf86
  v51 := Try.zeroValue86
  t53 := Try.underlying103
  a53 := Try.isAgg103
  z53 := Try.sizeOf103
  v53 := Try.zeroValue103
  t131 := Try.underlying99
  a131 := Try.isAgg99
  z131 := Try.sizeOf99
  v131 := Try.zeroValue99
  t182 := Try.underlying94
  a182 := Try.isAgg94
  z182 := Try.sizeOf94
  v182 := Try.zeroValue94
  t183 := Try.underlying95
  a183 := Try.isAgg95
  z183 := Try.sizeOf95
  v183 := Try.zeroValue95
  t218 := Try.underlying105
  a218 := Try.isAgg105
  z218 := Try.sizeOf105
  v218 := Try.zeroValue105
  t222 := Try.underlying109
  a222 := Try.isAgg109
  z222 := Try.sizeOf109
  v222 := Try.zeroValue109
  t228 := Try.underlying111
  a228 := Try.isAgg111
  z228 := Try.sizeOf111
  v228 := Try.zeroValue111
  t229 := Try.underlying112
  a229 := Try.isAgg112
  z229 := Try.sizeOf112
  v229 := Try.zeroValue112
theorem s_slices_Sort_int {h : AH} {b n : Nat} {cap : Option Nat} {zs : List Int} {rest : List AV} (hb : h.blk b = some (i64s zs ++ rest)) (hn : n = zs.length) (hsz : zs.length ≤ 1000000) :
    ACalls Try.prog 63 [.msl b 0 n cap] h fun r h' => r = .tup [] ∧ h' = h.put b (i64s (srt zs) ++ rest) :=
  s_sort sortLays hb hn (by omega) (by kernel_rfl)
end Go.Proofs.Ytemfmnjhhdeedaa
