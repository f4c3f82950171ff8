/- Go's sort of whole numbers in this seat's program. No condition. Printed by a program of ours. -/
import Derived.Test.YtgfidbejffhalaaS1
import Derived.Test.YtgfidbejffhalaaProg
namespace Go.Proofs.Ytgfidbejffhalaa
open Go Go.Abs Go.Shelf Go.Proofs
set_option maxRecDepth 100000
def roF : Nat → Nat
  | 125 => 58
  | 128 => 69
  | 129 => 70
  | 189 => 53
  | 215 => 59
  | 216 => 66
  | 257 => 57
  | 294 => 60
  | 295 => 61
  | 296 => 62
  | 297 => 63
  | 298 => 64
  | 299 => 65
  | 300 => 67
  | 301 => 68
  | 328 => 71
  | 329 => 72
  | 330 => 73
  | 331 => 74
  | 332 => 75
  | 343 => 76
  | _ => 0
def roT : Nat → Nat
  | 0 => 0
  | 3 => 3
  | 4 => 4
  | 5 => 5
  | 9 => 9
  | 28 => 25
  | 46 => 69
  | 51 => 48
  | 53 => 80
  | 131 => 76
  | 182 => 71
  | 183 => 72
  | 218 => 81
  | 222 => 85
  | 228 => 87
  | 229 => 88
  | _ => 0
def ro : Ren := ⟨roF, roT, fun x => x⟩
theorem sortLays : Lays.n189 Try.prog ro where
  mixed := by kernel_rfl
  f125 := by kernel_rfl
  f128 := by kernel_rfl
  f129 := by kernel_rfl
  f189 := by kernel_rfl
  f215 := by kernel_rfl
  f216 := by kernel_rfl
  f257 := by kernel_rfl
  f294 := by kernel_rfl
  f295 := by kernel_rfl
  f296 := by kernel_rfl
  f297 := by kernel_rfl
  f298 := by kernel_rfl
  f299 := by kernel_rfl
  f300 := by kernel_rfl
  f301 := by kernel_rfl
  f328 := by kernel_rfl
  f329 := by kernel_rfl
  f330 := by kernel_rfl
  f331 := by kernel_rfl
  f332 := by kernel_rfl
  f343 := by kernel_rfl
  t0 := Try.underlying0
  a0 := Try.isAgg0
  z0 := Try.sizeOf0
  v0 := Try.zeroValue0
  t3 := Try.underlying3
  a3 := Try.isAgg3
  z3 := Try.sizeOf3
  v3 := Try.zeroValue3
  t4 := Try.underlying4
  a4 := Try.isAgg4
  z4 := Try.sizeOf4
  v4 := Try.zeroValue4
  t5 := Try.underlying5
  a5 := Try.isAgg5
  z5 := Try.sizeOf5
  v5 := Try.zeroValue5
  t9 := Try.underlying9
  a9 := Try.isAgg9
  z9 := Try.sizeOf9
  v9 := Try.zeroValue9
  t28 := Try.underlying25
  a28 := Try.isAgg25
  z28 := Try.sizeOf25
  v28 := Try.zeroValue25
  t46 := Try.underlying69
  a46 := Try.isAgg69
  z46 := Try.sizeOf69
  v46 := Try.zeroValue69
  t51 := Try.underlying48
  a51 := Try.isAgg48
  z51 := Try.sizeOf48
  v51 := Try.zeroValue48
  t53 := Try.underlying80
  a53 := Try.isAgg80
  z53 := Try.sizeOf80
  v53 := Try.zeroValue80
  t131 := Try.underlying76
  a131 := Try.isAgg76
  z131 := Try.sizeOf76
  v131 := Try.zeroValue76
  t182 := Try.underlying71
  a182 := Try.isAgg71
  z182 := Try.sizeOf71
  v182 := Try.zeroValue71
  t183 := Try.underlying72
  a183 := Try.isAgg72
  z183 := Try.sizeOf72
  v183 := Try.zeroValue72
  t218 := Try.underlying81
  a218 := Try.isAgg81
  z218 := Try.sizeOf81
  v218 := Try.zeroValue81
  t222 := Try.underlying85
  a222 := Try.isAgg85
  z222 := Try.sizeOf85
  v222 := Try.zeroValue85
  t228 := Try.underlying87
  a228 := Try.isAgg87
  z228 := Try.sizeOf87
  v228 := Try.zeroValue87
  t229 := Try.underlying88
  a229 := Try.isAgg88
  z229 := Try.sizeOf88
  v229 := Try.zeroValue88
theorem s_slices_Sort_int {h : AH} {b n : Nat} {cap : Option Nat} {zs : List Int} {rest : List AV} (hb : h.blk b = some (i64s zs ++ rest)) (hn : n = zs.length) (hsz : zs.length ≤ 1000000) :
    ACalls Try.prog 53 [.msl b 0 n cap] h fun r h' => r = .tup [] ∧ h' = h.put b (i64s (srt zs) ++ rest) :=
  s_sort sortLays hb hn (by omega) (by kernel_rfl)
end Go.Proofs.Ytgfidbejffhalaa
