/- The compiled form of functions of this seat's program, checked by the kernel. No condition. Printed by a program of ours. -/
import Derived.Test.YtidmekdkfiljjaaGreatK19
import Derived.Test.YtidmekdkfiljjaaGreatProg
import Derived.Test.YtidmekdkfiljjaaGreatK22
import Derived.Test.YtidmekdkfiljjaaGreatK23
namespace Go.Proofs.YtidmekdkfiljjaaGreat.P
open Go Go.Abs
set_option maxRecDepth 100000
abbrev n_precedence_placeX : Nat := 45
def g_precedence_placeX : Cfg := ⟨8, [0, 1, 3, 4], [], [], [], [], [], [3]⟩
def F_precedence_placeX : CFn := ⟨(.seq (.reg [⟨(.some 3), (.boxF .none (.t 1)), .none, 0⟩, ⟨(.some 4), (.mv (.c (.int .i64 0))), .none, 0⟩]) (.seq (.reg [⟨(.some 5), (.mv (.t 0)), .none, 0⟩, ⟨(.some 6), (.makeFunc 68 [(.t 3)]), .none, 0⟩, ⟨(.some 7), (.call 67 [(.t 5), (.t 6)]), .none, 0⟩, ⟨(.some 4), (.mv (.t 7)), .none, 0⟩]) .ret)), [(.t 4)]⟩
theorem cF_precedence_placeX : cFn Tryz.prog n_precedence_placeX g_precedence_placeX = some F_precedence_placeX := by kernel_rfl
abbrev n_precedence_evidence_arcsW : Nat := 20
def g_precedence_evidence_arcsW : Cfg := ⟨26, [0, 1, 2, 3, 5, 7, 8, 9, 10], [46, 50], [], [], [], [20], [1, 5]⟩
def F_precedence_evidence_arcsW : CFn := ⟨(.seq (.reg [⟨(.some 1), (.boxF .none (.t 0)), .none, 0⟩, ⟨(.some 2), (.mv (.c (.sl true 0 [] .full))), .none, 0⟩]) (.seq (.reg [⟨(.some 3), (.mv (.c (.sl true 0 [] .full))), .none, 0⟩]) (.seq (.seq (.reg [⟨(.some 6), (.fieldAddr 1 (.t 1)), .none, 0⟩, ⟨(.some 7), (.load .none (.t 6)), .none, 0⟩, ⟨(.some 8), (.len (.t 7)), .none, 0⟩, ⟨(.some 9), (.mv (.c (.int .i64 0))), .none, 0⟩]) (.block 0 (.loop (.seq (.reg [⟨(.some 10), (.bin .lss (.t 9) (.t 8)), .none, 0⟩]) (.seq (.cond (.t 10) .skip (.exit 0)) (.seq (.block 1 (.seq (.reg [⟨(.some 11), (.indexAddr 3 (.t 7) (.t 9)), .none, 0⟩, ⟨(.some 12), (.load (.some 3) (.t 11)), .none, 0⟩, ⟨(.some 5), (.boxF (.some 3) (.t 12)), .none, 0⟩]) (.reg [⟨(.some 13), (.mv (.t 3)), .none, 0⟩, ⟨(.some 14), (.fieldAddr 1 (.t 5)), .none, 0⟩, ⟨(.some 15), (.load .none (.t 14)), .none, 0⟩, ⟨(.some 16), (.fieldAddr 2 (.t 5)), .none, 0⟩, ⟨(.some 17), (.load .none (.t 16)), .none, 0⟩, ⟨(.some 18), (.build [(.int .i64 0), (.int .i64 0)] [(0, (1, (.t 15))), (1, (1, (.t 17)))]), .none, 0⟩, ⟨(.some 19), (.buildSlice 1 2 [(.int .i64 0), (.int .i64 0)] [(0, (2, (.t 18)))]), .none, 0⟩, ⟨(.some 20), (.appendI 2 16 (.t 13) (.t 19)), .none, 2⟩, ⟨(.some 3), (.mv (.t 20)), .none, 0⟩]))) (.reg [⟨(.some 21), (.bin .add (.t 9) (.c (.int .i64 1))), .none, 0⟩, ⟨(.some 9), (.mv (.t 21)), .none, 0⟩]))))))) (.seq (.reg [⟨(.some 22), (.mv (.t 3)), .none, 0⟩, ⟨(.some 23), (.call 46 [(.t 22), (.c (.fn 47 []))]), .none, 2⟩]) (.seq (.reg [⟨(.some 24), (.mv (.t 3)), .none, 0⟩, ⟨(.some 25), (.call 50 [(.t 24)]), .none, 2⟩, ⟨(.some 2), (.mv (.t 25)), .none, 0⟩]) .ret))))), [(.t 2)]⟩
theorem cF_precedence_evidence_arcsW : cFn Tryz.prog n_precedence_evidence_arcsW g_precedence_evidence_arcsW = some F_precedence_evidence_arcsW := by kernel_rfl
abbrev n_poset_reachW : Nat := 52
def g_poset_reachW : Cfg := ⟨38, [0, 1, 4, 5, 6, 7, 11, 12, 13, 15, 16, 17, 24], [26], [], [], [], [], []⟩
def F_poset_reachW : CFn := ⟨(.seq (.reg [⟨(.some 4), (.mv (.c (.sl true 0 [] .full))), .none, 0⟩]) (.seq (.reg [⟨(.some 8), (.mv (.t 0)), .none, 0⟩, ⟨(.some 9), (.mv (.t 1)), .none, 0⟩, ⟨(.some 10), (.call 26 [(.t 8), (.t 9)]), .none, 2⟩, ⟨(.some 5), (.mv (.t 10)), .none, 0⟩]) (.seq (.seq (.reg [⟨(.some 11), (.mv (.t 0)), .none, 0⟩, ⟨(.some 12), (.mv (.c (.int .i64 0))), .none, 0⟩]) (.block 0 (.loop (.seq (.reg [⟨(.some 13), (.bin .lss (.t 12) (.t 11)), .none, 0⟩]) (.seq (.cond (.t 13) .skip (.exit 0)) (.seq (.block 1 (.seq (.reg [⟨(.some 14), (.mv (.t 12)), .none, 0⟩, ⟨(.some 6), (.mv (.t 14)), .none, 0⟩]) (.seq (.reg [⟨(.some 15), (.mv (.t 0)), .none, 0⟩, ⟨(.some 16), (.mv (.c (.int .i64 0))), .none, 0⟩]) (.block 2 (.loop (.seq (.reg [⟨(.some 17), (.bin .lss (.t 16) (.t 15)), .none, 0⟩]) (.seq (.cond (.t 17) .skip (.exit 2)) (.seq (.block 3 (.seq (.reg [⟨(.some 18), (.mv (.t 16)), .none, 0⟩, ⟨(.some 7), (.mv (.t 18)), .none, 0⟩]) (.seq (.reg [⟨(.some 19), (.mv (.t 5)), .none, 0⟩, ⟨(.some 20), (.mv (.t 7)), .none, 0⟩, ⟨(.some 21), (.indexAddr 1 (.t 19) (.t 20)), .none, 0⟩, ⟨(.some 22), (.load .none (.t 21)), .none, 0⟩, ⟨(.some 23), (.mv (.t 6)), .none, 0⟩, ⟨(.some 24), (.call 28 [(.t 22), (.t 23)]), .none, 0⟩]) (.cond (.t 24) (.reg [⟨(.some 25), (.mv (.t 5)), .none, 0⟩, ⟨(.some 26), (.mv (.t 7)), .none, 0⟩, ⟨(.some 27), (.indexAddr 1 (.t 25) (.t 26)), .none, 0⟩, ⟨(.some 28), (.load .none (.t 27)), .none, 0⟩, ⟨(.some 29), (.mv (.t 5)), .none, 0⟩, ⟨(.some 30), (.mv (.t 6)), .none, 0⟩, ⟨(.some 31), (.indexAddr 1 (.t 29) (.t 30)), .none, 0⟩, ⟨(.some 32), (.load .none (.t 31)), .none, 0⟩, ⟨(.some 33), (.bin .or (.t 28) (.t 32)), .none, 0⟩, ⟨(.some 34), (.indexAddr 1 (.t 25) (.t 26)), .none, 0⟩, ⟨.none, (.store 1 (.t 34) (.t 33)), .none, 2⟩]) .skip)))) (.reg [⟨(.some 35), (.bin .add (.t 16) (.c (.int .i64 1))), .none, 0⟩, ⟨(.some 16), (.mv (.t 35)), .none, 0⟩]))))))))) (.reg [⟨(.some 36), (.bin .add (.t 12) (.c (.int .i64 1))), .none, 0⟩, ⟨(.some 12), (.mv (.t 36)), .none, 0⟩]))))))) (.seq (.reg [⟨(.some 37), (.mv (.t 5)), .none, 0⟩, ⟨(.some 4), (.mv (.t 37)), .none, 0⟩]) .ret)))), [(.t 4)]⟩
theorem cF_poset_reachW : cFn Tryz.prog n_poset_reachW g_poset_reachW = some F_poset_reachW := by kernel_rfl
abbrev n_poset_AcyclicW : Nat := 21
def g_poset_AcyclicW : Cfg := ⟨14, [0, 1, 4], [52], [], [], [], [], []⟩
def F_poset_AcyclicW : CFn := ⟨(.seq (.reg [⟨(.some 4), (.mv (.c (.bool false))), .none, 0⟩]) (.seq (.reg [⟨(.some 5), (.mv (.t 0)), .none, 0⟩, ⟨(.some 6), (.mv (.t 1)), .none, 0⟩, ⟨(.some 7), (.call 25 [(.t 5), (.t 6)]), .none, 0⟩, ⟨(.some 8), (.mv (.t 7)), .none, 0⟩, ⟨(.some 9), (.mv (.t 0)), (.some (8, true)), 0⟩, ⟨(.some 10), (.mv (.t 1)), (.some (8, true)), 0⟩, ⟨(.some 11), (.call 52 [(.t 9), (.t 10)]), (.some (8, true)), 2⟩, ⟨(.some 12), (.call 51 [(.t 11)]), (.some (8, true)), 0⟩, ⟨(.some 13), (.pick (.t 8) (.t 12) (.c (.bool false))), .none, 0⟩, ⟨(.some 4), (.mv (.t 13)), .none, 0⟩]) .ret)), [(.t 4)]⟩
theorem cF_poset_AcyclicW : cFn Tryz.prog n_poset_AcyclicW g_poset_AcyclicW = some F_poset_AcyclicW := by kernel_rfl
abbrev n_precedence_Build : Nat := 5
def g_precedence_Build : Cfg := ⟨19, [0, 1, 4, 5, 6, 7, 15], [], [], [], [], [], [6]⟩
def F_precedence_Build : CFn := ⟨(.seq (.reg [⟨(.some 4), (.mv (.c (.sl true 0 [] .full))), .none, 0⟩, ⟨(.some 5), (.mv (.c (.int .i64 0))), .none, 0⟩]) (.seq (.reg [⟨(.some 9), (.mv (.t 0)), .none, 0⟩, ⟨(.some 10), (.mv (.t 1)), .none, 0⟩, ⟨(.some 11), (.call 19 [(.t 9), (.t 10)]), .none, 0⟩, ⟨(.some 8), (.mv (.t 11)), .none, 0⟩, ⟨(.some 12), (.extract (.t 8) 0), .none, 0⟩, ⟨(.some 13), (.extract (.t 8) 1), .none, 0⟩, ⟨(.some 6), (.boxF (.some 2) (.t 12)), .none, 0⟩, ⟨(.some 7), (.mv (.t 13)), .none, 0⟩]) (.seq (.seq (.reg [⟨(.some 14), (.mv (.t 7)), .none, 0⟩, ⟨(.some 15), (.bin .neq (.t 14) (.c (.int .i64 0))), .none, 0⟩]) (.cond (.t 15) (.seq (.reg [⟨(.some 16), (.mv (.t 7)), .none, 0⟩, ⟨(.some 4), (.mv (.c (.sl true 0 [] .full))), .none, 0⟩, ⟨(.some 5), (.mv (.t 16)), .none, 0⟩]) .ret) .skip)) (.seq (.reg [⟨(.some 17), (.load (.some 2) (.t 6)), .none, 0⟩, ⟨(.some 18), (.call 20 [(.t 17)]), .none, 0⟩, ⟨(.some 4), (.mv (.t 18)), .none, 0⟩, ⟨(.some 5), (.mv (.c (.int .i64 0))), .none, 0⟩]) .ret)))), [(.t 4), (.t 5)]⟩
theorem cF_precedence_Build : cFn Tryz.prog n_precedence_Build g_precedence_Build = some F_precedence_Build := by kernel_rfl
abbrev n_precedence_Consistent : Nat := 6
def g_precedence_Consistent : Cfg := ⟨23, [0, 1, 4, 5, 6, 7], [], [], [], [], [], []⟩
def F_precedence_Consistent : CFn := ⟨(.seq (.reg [⟨(.some 4), (.mv (.c (.bool false))), .none, 0⟩, ⟨(.some 5), (.mv (.c (.int .i64 0))), .none, 0⟩]) (.seq (.reg [⟨(.some 9), (.mv (.t 0)), .none, 0⟩, ⟨(.some 10), (.mv (.t 1)), .none, 0⟩, ⟨(.some 11), (.call 5 [(.t 9), (.t 10)]), .none, 0⟩, ⟨(.some 8), (.mv (.t 11)), .none, 0⟩, ⟨(.some 12), (.extract (.t 8) 0), .none, 0⟩, ⟨(.some 13), (.extract (.t 8) 1), .none, 0⟩, ⟨(.some 6), (.mv (.t 12)), .none, 0⟩, ⟨(.some 7), (.mv (.t 13)), .none, 0⟩]) (.seq (.reg [⟨(.some 14), (.mv (.t 7)), .none, 0⟩, ⟨(.some 15), (.bin .eql (.t 14) (.c (.int .i64 0))), .none, 0⟩, ⟨(.some 16), (.mv (.t 15)), .none, 0⟩, ⟨(.some 17), (.mv (.t 0)), (.some (16, true)), 0⟩, ⟨(.some 18), (.len (.t 17)), (.some (16, true)), 0⟩, ⟨(.some 19), (.mv (.t 6)), (.some (16, true)), 0⟩, ⟨(.some 20), (.call 21 [(.t 18), (.t 19)]), (.some (16, true)), 0⟩, ⟨(.some 21), (.pick (.t 16) (.t 20) (.c (.bool false))), .none, 0⟩, ⟨(.some 22), (.mv (.t 7)), .none, 0⟩, ⟨(.some 4), (.mv (.t 21)), .none, 0⟩, ⟨(.some 5), (.mv (.t 22)), .none, 0⟩]) .ret))), [(.t 4), (.t 5)]⟩
theorem cF_precedence_Consistent : cFn Tryz.prog n_precedence_Consistent g_precedence_Consistent = some F_precedence_Consistent := by kernel_rfl
abbrev n_base_Ints : Nat := 18
def g_base_Ints : Cfg := ⟨26, [0, 1, 4, 5, 10, 14, 25], [], [], [], [], [], []⟩
def F_base_Ints : CFn := ⟨(.seq (.reg [⟨(.some 4), (.mv (.c (.bool false))), .none, 0⟩]) (.seq (.seq (.reg [⟨(.some 6), (.mv (.t 0)), .none, 0⟩, ⟨(.some 7), (.len (.t 6)), .none, 0⟩, ⟨(.some 8), (.mv (.t 1)), .none, 0⟩, ⟨(.some 9), (.len (.t 8)), .none, 0⟩, ⟨(.some 10), (.bin .neq (.t 7) (.t 9)), .none, 0⟩]) (.cond (.t 10) (.seq (.reg [⟨(.some 4), (.mv (.c (.bool false))), .none, 0⟩]) .ret) .skip)) (.seq (.seq (.reg [⟨(.some 5), (.mv (.c (.int .i64 0))), .none, 0⟩]) (.block 0 (.loop (.seq (.seq (.reg [⟨(.some 11), (.mv (.t 5)), .none, 0⟩, ⟨(.some 12), (.mv (.t 0)), .none, 0⟩, ⟨(.some 13), (.len (.t 12)), .none, 0⟩, ⟨(.some 14), (.bin .lss (.t 11) (.t 13)), .none, 0⟩]) (.cond (.t 14) .skip (.exit 0))) (.seq (.block 1 (.seq (.reg [⟨(.some 17), (.mv (.t 0)), .none, 0⟩, ⟨(.some 18), (.mv (.t 5)), .none, 0⟩, ⟨(.some 19), (.indexAddr 1 (.t 17) (.t 18)), .none, 0⟩, ⟨(.some 20), (.load .none (.t 19)), .none, 0⟩, ⟨(.some 21), (.mv (.t 1)), .none, 0⟩, ⟨(.some 22), (.mv (.t 5)), .none, 0⟩, ⟨(.some 23), (.indexAddr 1 (.t 21) (.t 22)), .none, 0⟩, ⟨(.some 24), (.load .none (.t 23)), .none, 0⟩, ⟨(.some 25), (.bin .neq (.t 20) (.t 24)), .none, 0⟩]) (.cond (.t 25) (.seq (.reg [⟨(.some 4), (.mv (.c (.bool false))), .none, 0⟩]) .ret) .skip))) (.reg [⟨(.some 15), (.mv (.t 5)), .none, 0⟩, ⟨(.some 16), (.bin .add (.t 15) (.c (.int .i64 1))), .none, 0⟩, ⟨(.some 5), (.mv (.t 16)), .none, 0⟩])))))) (.seq (.reg [⟨(.some 4), (.mv (.c (.bool true))), .none, 0⟩]) .ret)))), [(.t 4)]⟩
theorem cF_base_Ints : cFn Tryz.prog n_base_Ints g_base_Ints = some F_base_Ints := by kernel_rfl
abbrev n_precedence_gather : Nat := 19
def g_precedence_gather : Cfg := ⟨104, [0, 1, 4, 5, 6, 7, 8, 9, 12, 13, 15, 16, 20, 30, 34, 35, 43, 44, 45, 46, 62, 63, 64, 65, 84, 101], [], [], [], [], [], [12, 15, 16]⟩
def F_precedence_gather : CFn := ⟨(.seq (.reg [⟨(.some 4), (.alloc [(.sl true 0 [] .full), (.sl true 0 [] .full)]), .none, 1⟩, ⟨(.some 5), (.mv (.c (.int .i64 0))), .none, 0⟩]) (.seq (.seq (.reg [⟨(.some 17), (.mv (.t 0)), .none, 0⟩, ⟨(.some 18), (.call 43 [(.t 17)]), .none, 0⟩, ⟨(.some 6), (.mv (.t 18)), .none, 0⟩]) (.seq (.reg [⟨(.some 19), (.mv (.t 6)), .none, 0⟩, ⟨(.some 20), (.bin .neq (.t 19) (.c (.int .i64 0))), .none, 0⟩]) (.cond (.t 20) (.seq (.reg [⟨(.some 21), (.build [(.sl true 0 [] .full), (.sl true 0 [] .full)] []), .none, 0⟩, ⟨(.some 22), (.mv (.t 6)), .none, 0⟩, ⟨.none, (.store 2 (.t 4) (.t 21)), .none, 2⟩, ⟨(.some 5), (.mv (.t 22)), .none, 0⟩]) .ret) .skip))) (.seq (.seq (.reg [⟨(.some 23), (.mv (.t 0)), .none, 0⟩, ⟨(.some 24), (.len (.t 23)), .none, 0⟩, ⟨(.some 25), (.bin .gtr (.t 24) (.c (.int .i64 24))), .none, 0⟩, ⟨(.some 26), (.mv (.t 25)), .none, 0⟩, ⟨(.some 27), (.mv (.t 1)), (.some (26, false)), 0⟩, ⟨(.some 28), (.len (.t 27)), (.some (26, false)), 0⟩, ⟨(.some 29), (.bin .gtr (.t 28) (.c (.int .i64 64))), (.some (26, false)), 0⟩, ⟨(.some 30), (.pick (.t 26) (.c (.bool true)) (.t 29)), .none, 0⟩]) (.cond (.t 30) (.seq (.reg [⟨(.some 31), (.build [(.sl true 0 [] .full), (.sl true 0 [] .full)] []), .none, 0⟩, ⟨.none, (.store 2 (.t 4) (.t 31)), .none, 2⟩, ⟨(.some 5), (.mv (.c (.int .i64 6))), .none, 0⟩]) .ret) .skip)) (.seq (.reg [⟨(.some 32), (.mv (.t 0)), .none, 0⟩, ⟨(.some 33), (.build [(.sl true 0 [] .full), (.sl true 0 [] .full)] [(0, (1, (.t 32)))]), .none, 0⟩, ⟨(.some 7), (.alloc [(.sl true 0 [] .full), (.sl true 0 [] .full)]), .none, 1⟩, ⟨.none, (.store 2 (.t 7) (.t 33)), .none, 2⟩]) (.seq (.seq (.reg [⟨(.some 34), (.mv (.c (.int .i64 0))), .none, 0⟩]) (.block 0 (.loop (.seq (.reg [⟨(.some 35), (.bin .lss (.t 34) (.c (.int .i64 2))), .none, 0⟩]) (.seq (.cond (.t 35) .skip (.exit 0)) (.seq (.block 1 (.seq (.reg [⟨(.some 36), (.mv (.t 34)), .none, 0⟩, ⟨(.some 8), (.mv (.t 36)), .none, 0⟩]) (.seq (.reg [⟨(.some 38), (.mv (.t 0)), .none, 0⟩, ⟨(.some 39), (.mv (.t 8)), .none, 0⟩, ⟨(.some 40), (.call 44 [(.t 38), (.t 39)]), .none, 0⟩, ⟨(.some 37), (.mv (.t 40)), .none, 0⟩, ⟨(.some 41), (.extract (.t 37) 0), .none, 0⟩, ⟨(.some 42), (.extract (.t 37) 1), .none, 0⟩, ⟨(.some 9), (.mv (.t 41)), .none, 0⟩, ⟨(.some 10), (.mv (.t 42)), .none, 0⟩]) (.seq (.reg [⟨(.some 43), (.mv (.t 9)), .none, 0⟩, ⟨(.some 44), (.len (.t 43)), .none, 0⟩, ⟨(.some 45), (.mv (.c (.int .i64 0))), .none, 0⟩]) (.block 2 (.loop (.seq (.reg [⟨(.some 46), (.bin .lss (.t 45) (.t 44)), .none, 0⟩]) (.seq (.cond (.t 46) .skip (.exit 2)) (.seq (.block 3 (.seq (.reg [⟨(.some 47), (.indexAddr 2 (.t 43) (.t 45)), .none, 0⟩, ⟨(.some 48), (.load (.some 2) (.t 47)), .none, 0⟩, ⟨(.some 12), (.boxF (.some 2) (.t 48)), .none, 0⟩]) (.reg [⟨(.some 49), (.fieldAddr 1 (.t 7)), .none, 0⟩, ⟨(.some 50), (.load .none (.t 49)), .none, 0⟩, ⟨(.some 51), (.mv (.t 8)), .none, 0⟩, ⟨(.some 52), (.fieldAddr 0 (.t 12)), .none, 0⟩, ⟨(.some 53), (.load .none (.t 52)), .none, 0⟩, ⟨(.some 54), (.fieldAddr 1 (.t 12)), .none, 0⟩, ⟨(.some 55), (.load .none (.t 54)), .none, 0⟩, ⟨(.some 56), (.build [(.int .i64 0), (.int .i64 0), (.int .i64 0)] [(0, (1, (.t 51))), (1, (1, (.t 53))), (2, (1, (.t 55)))]), .none, 0⟩, ⟨(.some 57), (.buildSlice 1 3 [(.int .i64 0), (.int .i64 0), (.int .i64 0)] [(0, (3, (.t 56)))]), .none, 0⟩, ⟨(.some 58), (.append 3 24 (.t 50) (.t 57)), .none, 1⟩, ⟨(.some 59), (.fieldAddr 1 (.t 7)), .none, 0⟩, ⟨.none, (.store 1 (.t 59) (.t 58)), .none, 2⟩]))) (.reg [⟨(.some 60), (.bin .add (.t 45) (.c (.int .i64 1))), .none, 0⟩, ⟨(.some 45), (.mv (.t 60)), .none, 0⟩])))))))))) (.reg [⟨(.some 61), (.bin .add (.t 34) (.c (.int .i64 1))), .none, 0⟩, ⟨(.some 34), (.mv (.t 61)), .none, 0⟩]))))))) (.seq (.reg [⟨(.some 13), (.mv (.c (.bool false))), .none, 0⟩]) (.seq (.seq (.reg [⟨(.some 62), (.mv (.t 1)), .none, 0⟩, ⟨(.some 63), (.len (.t 62)), .none, 0⟩, ⟨(.some 64), (.mv (.c (.int .i64 0))), .none, 0⟩]) (.block 4 (.loop (.seq (.reg [⟨(.some 65), (.bin .lss (.t 64) (.t 63)), .none, 0⟩]) (.seq (.cond (.t 65) .skip (.exit 4)) (.seq (.block 5 (.seq (.reg [⟨(.some 66), (.indexAddr 2 (.t 62) (.t 64)), .none, 0⟩, ⟨(.some 67), (.load (.some 2) (.t 66)), .none, 0⟩, ⟨(.some 15), (.boxF (.some 2) (.t 67)), .none, 0⟩]) (.seq (.reg [⟨(.some 68), (.mv (.t 0)), .none, 0⟩, ⟨(.some 69), (.fieldAddr 0 (.t 15)), .none, 0⟩, ⟨(.some 70), (.load .none (.t 69)), .none, 0⟩, ⟨(.some 71), (.call 45 [(.t 68), (.t 70)]), .none, 0⟩, ⟨(.some 72), (.mv (.t 0)), .none, 0⟩, ⟨(.some 73), (.fieldAddr 1 (.t 15)), .none, 0⟩, ⟨(.some 74), (.load .none (.t 73)), .none, 0⟩, ⟨(.some 75), (.call 45 [(.t 72), (.t 74)]), .none, 0⟩, ⟨(.some 76), (.build [(.int .i64 0), (.int .i64 0), (.int .i64 0)] [(0, (1, (.c (.int .i64 2)))), (1, (1, (.t 71))), (2, (1, (.t 75)))]), .none, 0⟩, ⟨(.some 16), (.boxF (.some 3) (.t 76)), .none, 0⟩]) (.seq (.seq (.reg [⟨(.some 77), (.fieldAddr 1 (.t 16)), .none, 0⟩, ⟨(.some 78), (.load .none (.t 77)), .none, 0⟩, ⟨(.some 79), (.bin .lss (.t 78) (.c (.int .i64 0))), .none, 0⟩, ⟨(.some 80), (.mv (.t 79)), .none, 0⟩, ⟨(.some 81), (.fieldAddr 2 (.t 16)), (.some (80, false)), 0⟩, ⟨(.some 82), (.load .none (.t 81)), (.some (80, false)), 0⟩, ⟨(.some 83), (.bin .lss (.t 82) (.c (.int .i64 0))), (.some (80, false)), 0⟩, ⟨(.some 84), (.pick (.t 80) (.c (.bool true)) (.t 83)), .none, 0⟩]) (.cond (.t 84) (.seq (.reg [⟨(.some 85), (.build [(.sl true 0 [] .full), (.sl true 0 [] .full)] []), .none, 0⟩, ⟨.none, (.store 2 (.t 4) (.t 85)), .none, 2⟩, ⟨(.some 5), (.mv (.c (.int .i64 7))), .none, 0⟩]) .ret) .skip)) (.seq (.reg [⟨(.some 86), (.mv (.t 13)), .none, 0⟩, ⟨(.some 87), (.mv (.t 86)), .none, 0⟩, ⟨(.some 88), (.fieldAddr 1 (.t 16)), (.some (87, false)), 0⟩, ⟨(.some 89), (.load .none (.t 88)), (.some (87, false)), 0⟩, ⟨(.some 90), (.fieldAddr 2 (.t 16)), (.some (87, false)), 0⟩, ⟨(.some 91), (.load .none (.t 90)), (.some (87, false)), 0⟩, ⟨(.some 92), (.bin .eql (.t 89) (.t 91)), (.some (87, false)), 0⟩, ⟨(.some 93), (.pick (.t 87) (.c (.bool true)) (.t 92)), .none, 0⟩, ⟨(.some 13), (.mv (.t 93)), .none, 0⟩]) (.reg [⟨(.some 94), (.fieldAddr 1 (.t 7)), .none, 0⟩, ⟨(.some 95), (.load .none (.t 94)), .none, 0⟩, ⟨(.some 96), (.load (.some 3) (.t 16)), .none, 0⟩, ⟨(.some 97), (.buildSlice 1 3 [(.int .i64 0), (.int .i64 0), (.int .i64 0)] [(0, (3, (.t 96)))]), .none, 0⟩, ⟨(.some 98), (.append 3 24 (.t 95) (.t 97)), .none, 1⟩, ⟨(.some 99), (.fieldAddr 1 (.t 7)), .none, 0⟩, ⟨.none, (.store 1 (.t 99) (.t 98)), .none, 2⟩])))))) (.reg [⟨(.some 100), (.bin .add (.t 64) (.c (.int .i64 1))), .none, 0⟩, ⟨(.some 64), (.mv (.t 100)), .none, 0⟩]))))))) (.seq (.seq (.reg [⟨(.some 101), (.mv (.t 13)), .none, 0⟩]) (.cond (.t 101) (.seq (.reg [⟨(.some 102), (.build [(.sl true 0 [] .full), (.sl true 0 [] .full)] []), .none, 0⟩, ⟨.none, (.store 2 (.t 4) (.t 102)), .none, 2⟩, ⟨(.some 5), (.mv (.c (.int .i64 1))), .none, 0⟩]) .ret) .skip)) (.seq (.reg [⟨(.some 103), (.load (.some 2) (.t 7)), .none, 0⟩, ⟨.none, (.store 2 (.t 4) (.t 103)), .none, 2⟩, ⟨(.some 5), (.mv (.c (.int .i64 0))), .none, 0⟩]) .ret))))))))), [(.cell 4 (.some 2)), (.t 5)]⟩
theorem cF_precedence_gather : cFn Tryz.prog n_precedence_gather g_precedence_gather = some F_precedence_gather := by kernel_rfl
abbrev n_cmp_Compare_int : Nat := 49
def g_cmp_Compare_int : Cfg := ⟨20, [0, 1, 4, 5, 6, 11, 12, 13, 16, 19], [], [], [], [], [], []⟩
def F_cmp_Compare_int : CFn := ⟨(.seq (.reg [⟨(.some 4), (.mv (.c (.int .i64 0))), .none, 0⟩]) (.seq (.reg [⟨(.some 7), (.mv (.t 0)), .none, 0⟩, ⟨(.some 8), (.call 71 [(.t 7)]), .none, 0⟩, ⟨(.some 5), (.mv (.t 8)), .none, 0⟩]) (.seq (.reg [⟨(.some 9), (.mv (.t 1)), .none, 0⟩, ⟨(.some 10), (.call 71 [(.t 9)]), .none, 0⟩, ⟨(.some 6), (.mv (.t 10)), .none, 0⟩]) (.seq (.seq (.reg [⟨(.some 11), (.mv (.t 5)), .none, 0⟩]) (.cond (.t 11) (.seq (.seq (.reg [⟨(.some 12), (.mv (.t 6)), .none, 0⟩]) (.cond (.t 12) (.seq (.reg [⟨(.some 4), (.mv (.c (.int .i64 0))), .none, 0⟩]) .ret) .skip)) (.seq (.reg [⟨(.some 4), (.mv (.c (.int .i64 (-1)))), .none, 0⟩]) .ret)) .skip)) (.seq (.seq (.reg [⟨(.some 13), (.mv (.t 6)), .none, 0⟩]) (.cond (.t 13) (.seq (.reg [⟨(.some 4), (.mv (.c (.int .i64 1))), .none, 0⟩]) .ret) .skip)) (.seq (.seq (.reg [⟨(.some 14), (.mv (.t 0)), .none, 0⟩, ⟨(.some 15), (.mv (.t 1)), .none, 0⟩, ⟨(.some 16), (.bin .lss (.t 14) (.t 15)), .none, 0⟩]) (.cond (.t 16) (.seq (.reg [⟨(.some 4), (.mv (.c (.int .i64 (-1)))), .none, 0⟩]) .ret) .skip)) (.seq (.seq (.reg [⟨(.some 17), (.mv (.t 0)), .none, 0⟩, ⟨(.some 18), (.mv (.t 1)), .none, 0⟩, ⟨(.some 19), (.bin .gtr (.t 17) (.t 18)), .none, 0⟩]) (.cond (.t 19) (.seq (.reg [⟨(.some 4), (.mv (.c (.int .i64 1))), .none, 0⟩]) .ret) .skip)) (.seq (.reg [⟨(.some 4), (.mv (.c (.int .i64 0))), .none, 0⟩]) .ret)))))))), [(.t 4)]⟩
theorem cF_cmp_Compare_int : cFn Tryz.prog n_cmp_Compare_int g_cmp_Compare_int = some F_cmp_Compare_int := by kernel_rfl
abbrev n_specimen_Check : Nat := 43
def g_specimen_Check : Cfg := ⟨32, [0, 2, 3, 4, 6, 9, 11, 12, 13, 14, 19, 31], [], [], [], [], [], [6]⟩
def F_specimen_Check : CFn := ⟨(.seq (.reg [⟨(.some 2), (.mv (.c (.int .i64 0))), .none, 0⟩]) (.seq (.seq (.reg [⟨(.some 7), (.mv (.t 0)), .none, 0⟩, ⟨(.some 8), (.len (.t 7)), .none, 0⟩, ⟨(.some 9), (.bin .gtr (.t 8) (.c (.int .i64 64))), .none, 0⟩]) (.cond (.t 9) (.seq (.reg [⟨(.some 2), (.mv (.c (.int .i64 6))), .none, 0⟩]) .ret) .skip)) (.seq (.reg [⟨(.some 10), .makeMap, .none, 1⟩, ⟨(.some 3), (.mv (.t 10)), .none, 0⟩]) (.seq (.reg [⟨(.some 4), (.mv (.c (.bool false))), .none, 0⟩]) (.seq (.seq (.reg [⟨(.some 11), (.mv (.t 0)), .none, 0⟩, ⟨(.some 12), (.len (.t 11)), .none, 0⟩, ⟨(.some 13), (.mv (.c (.int .i64 0))), .none, 0⟩]) (.block 0 (.loop (.seq (.reg [⟨(.some 14), (.bin .lss (.t 13) (.t 12)), .none, 0⟩]) (.seq (.cond (.t 14) .skip (.exit 0)) (.seq (.block 1 (.seq (.reg [⟨(.some 15), (.indexAddr 7 (.t 11) (.t 13)), .none, 0⟩, ⟨(.some 16), (.load (.some 7) (.t 15)), .none, 0⟩, ⟨(.some 6), (.boxF (.some 7) (.t 16)), .none, 0⟩]) (.seq (.seq (.reg [⟨(.some 17), (.load (.some 7) (.t 6)), .none, 0⟩, ⟨(.some 18), (.call 63 [(.t 17)]), .none, 0⟩, ⟨(.some 19), (.un .not (.t 18)), .none, 0⟩]) (.cond (.t 19) (.seq (.reg [⟨(.some 2), (.mv (.c (.int .i64 1))), .none, 0⟩]) .ret) .skip)) (.seq (.reg [⟨(.some 20), (.mv (.t 4)), .none, 0⟩, ⟨(.some 21), (.mv (.t 20)), .none, 0⟩, ⟨(.some 22), (.mv (.t 3)), (.some (21, false)), 0⟩, ⟨(.some 23), (.fieldAddr 0 (.t 6)), (.some (21, false)), 0⟩, ⟨(.some 24), (.load .none (.t 23)), (.some (21, false)), 0⟩, ⟨(.some 25), (.lookup .none (.bool false) false (.t 22) (.t 24)), (.some (21, false)), 0⟩, ⟨(.some 26), (.pick (.t 21) (.c (.bool true)) (.t 25)), .none, 0⟩, ⟨(.some 4), (.mv (.t 26)), .none, 0⟩]) (.reg [⟨(.some 27), (.mv (.t 3)), .none, 0⟩, ⟨(.some 28), (.fieldAddr 0 (.t 6)), .none, 0⟩, ⟨(.some 29), (.load .none (.t 28)), .none, 0⟩, ⟨.none, (.mapUpdate .none (.t 27) (.t 29) (.c (.bool true))), .none, 2⟩]))))) (.reg [⟨(.some 30), (.bin .add (.t 13) (.c (.int .i64 1))), .none, 0⟩, ⟨(.some 13), (.mv (.t 30)), .none, 0⟩]))))))) (.seq (.seq (.reg [⟨(.some 31), (.mv (.t 4)), .none, 0⟩]) (.cond (.t 31) (.seq (.reg [⟨(.some 2), (.mv (.c (.int .i64 8))), .none, 0⟩]) .ret) .skip)) (.seq (.reg [⟨(.some 2), (.mv (.c (.int .i64 0))), .none, 0⟩]) .ret))))))), [(.t 2)]⟩
theorem cF_specimen_Check : cFn Tryz.prog n_specimen_Check g_specimen_Check = some F_specimen_Check := by kernel_rfl
abbrev n_wear_arcs : Nat := 64
def g_wear_arcs : Cfg := ⟨37, [0, 1, 4, 5, 6, 7, 8, 9, 10, 11, 12, 13, 17, 18, 19, 20, 27], [], [], [], [], [], [7, 9]⟩
def F_wear_arcs : CFn := ⟨(.seq (.reg [⟨(.some 4), (.mv (.c (.sl true 0 [] .full))), .none, 0⟩]) (.seq (.reg [⟨(.some 5), (.mv (.c (.sl true 0 [] .full))), .none, 0⟩]) (.seq (.seq (.reg [⟨(.some 10), (.mv (.t 0)), .none, 0⟩, ⟨(.some 11), (.len (.t 10)), .none, 0⟩, ⟨(.some 12), (.mv (.c (.int .i64 0))), .none, 0⟩]) (.block 0 (.loop (.seq (.reg [⟨(.some 13), (.bin .lss (.t 12) (.t 11)), .none, 0⟩]) (.seq (.cond (.t 13) .skip (.exit 0)) (.seq (.block 1 (.seq (.reg [⟨(.some 14), (.mv (.t 12)), .none, 0⟩, ⟨(.some 15), (.indexAddr 7 (.t 10) (.t 12)), .none, 0⟩, ⟨(.some 16), (.load (.some 7) (.t 15)), .none, 0⟩, ⟨(.some 6), (.mv (.t 14)), .none, 0⟩, ⟨(.some 7), (.boxF (.some 7) (.t 16)), .none, 0⟩]) (.seq (.reg [⟨(.some 17), (.mv (.t 0)), .none, 0⟩, ⟨(.some 18), (.len (.t 17)), .none, 0⟩, ⟨(.some 19), (.mv (.c (.int .i64 0))), .none, 0⟩]) (.block 2 (.loop (.seq (.reg [⟨(.some 20), (.bin .lss (.t 19) (.t 18)), .none, 0⟩]) (.seq (.cond (.t 20) .skip (.exit 2)) (.seq (.block 3 (.seq (.reg [⟨(.some 21), (.mv (.t 19)), .none, 0⟩, ⟨(.some 22), (.indexAddr 7 (.t 17) (.t 19)), .none, 0⟩, ⟨(.some 23), (.load (.some 7) (.t 22)), .none, 0⟩, ⟨(.some 8), (.mv (.t 21)), .none, 0⟩, ⟨(.some 9), (.boxF (.some 7) (.t 23)), .none, 0⟩]) (.seq (.reg [⟨(.some 24), (.mv (.t 1)), .none, 0⟩, ⟨(.some 25), (.load (.some 7) (.t 7)), .none, 0⟩, ⟨(.some 26), (.load (.some 7) (.t 9)), .none, 0⟩, ⟨(.some 27), (.callv (.t 24) [(.t 25), (.t 26)]), .none, 0⟩]) (.cond (.t 27) (.reg [⟨(.some 28), (.mv (.t 5)), .none, 0⟩, ⟨(.some 29), (.mv (.t 6)), .none, 0⟩, ⟨(.some 30), (.mv (.t 8)), .none, 0⟩, ⟨(.some 31), (.build [(.int .i64 0), (.int .i64 0)] [(0, (1, (.t 29))), (1, (1, (.t 30)))]), .none, 0⟩, ⟨(.some 32), (.buildSlice 1 2 [(.int .i64 0), (.int .i64 0)] [(0, (2, (.t 31)))]), .none, 0⟩, ⟨(.some 33), (.append 2 16 (.t 28) (.t 32)), .none, 1⟩, ⟨(.some 5), (.mv (.t 33)), .none, 0⟩]) .skip)))) (.reg [⟨(.some 34), (.bin .add (.t 19) (.c (.int .i64 1))), .none, 0⟩, ⟨(.some 19), (.mv (.t 34)), .none, 0⟩]))))))))) (.reg [⟨(.some 35), (.bin .add (.t 12) (.c (.int .i64 1))), .none, 0⟩, ⟨(.some 12), (.mv (.t 35)), .none, 0⟩]))))))) (.seq (.reg [⟨(.some 36), (.mv (.t 5)), .none, 0⟩, ⟨(.some 4), (.mv (.t 36)), .none, 0⟩]) .ret)))), [(.t 4)]⟩
theorem cF_wear_arcs : cFn Tryz.prog n_wear_arcs g_wear_arcs = some F_wear_arcs := by kernel_rfl
abbrev n_wear_before : Nat := 66
def g_wear_before : Cfg := ⟨31, [0, 1, 2, 3, 4, 6, 7, 8, 9, 10], [], [], [], [], [], [3, 4]⟩
def F_wear_before : CFn := ⟨(.seq (.reg [⟨(.some 3), (.boxF .none (.t 0)), .none, 0⟩, ⟨(.some 4), (.boxF .none (.t 1)), .none, 0⟩, ⟨(.some 6), (.mv (.c (.bool false))), .none, 0⟩]) (.seq (.reg [⟨(.some 12), (.load (.some 7) (.t 3)), .none, 0⟩, ⟨(.some 13), (.mv (.t 2)), .none, 0⟩, ⟨(.some 14), (.call 75 [(.t 12), (.t 13)]), .none, 0⟩, ⟨(.some 11), (.mv (.t 14)), .none, 0⟩, ⟨(.some 15), (.extract (.t 11) 0), .none, 0⟩, ⟨(.some 16), (.extract (.t 11) 1), .none, 0⟩, ⟨(.some 7), (.mv (.t 15)), .none, 0⟩, ⟨(.some 8), (.mv (.t 16)), .none, 0⟩]) (.seq (.reg [⟨(.some 18), (.load (.some 7) (.t 4)), .none, 0⟩, ⟨(.some 19), (.mv (.t 2)), .none, 0⟩, ⟨(.some 20), (.call 75 [(.t 18), (.t 19)]), .none, 0⟩, ⟨(.some 17), (.mv (.t 20)), .none, 0⟩, ⟨(.some 21), (.extract (.t 17) 0), .none, 0⟩, ⟨(.some 22), (.extract (.t 17) 1), .none, 0⟩, ⟨(.some 9), (.mv (.t 21)), .none, 0⟩, ⟨(.some 10), (.mv (.t 22)), .none, 0⟩]) (.seq (.reg [⟨(.some 23), (.mv (.t 7)), .none, 0⟩, ⟨(.some 24), (.mv (.t 9)), .none, 0⟩, ⟨(.some 25), (.bin .eql (.t 23) (.t 24)), .none, 0⟩, ⟨(.some 26), (.mv (.t 25)), .none, 0⟩, ⟨(.some 27), (.mv (.t 8)), (.some (26, true)), 0⟩, ⟨(.some 28), (.mv (.t 10)), (.some (26, true)), 0⟩, ⟨(.some 29), (.bin .lss (.t 27) (.t 28)), (.some (26, true)), 0⟩, ⟨(.some 30), (.pick (.t 26) (.t 29) (.c (.bool false))), .none, 0⟩, ⟨(.some 6), (.mv (.t 30)), .none, 0⟩]) .ret)))), [(.t 6)]⟩
theorem cF_wear_before : cFn Tryz.prog n_wear_before g_wear_before = some F_wear_before := by kernel_rfl
abbrev n_slices_IndexFunc_Specimen : Nat := 67
def g_slices_IndexFunc_Specimen : Cfg := ⟨19, [0, 1, 4, 5, 7, 8, 9, 16], [], [], [], [], [], []⟩
def F_slices_IndexFunc_Specimen : CFn := ⟨(.seq (.reg [⟨(.some 4), (.mv (.c (.int .i64 0))), .none, 0⟩]) (.seq (.seq (.reg [⟨(.some 6), (.mv (.t 0)), .none, 0⟩, ⟨(.some 7), (.len (.t 6)), .none, 0⟩, ⟨(.some 8), (.mv (.c (.int .i64 0))), .none, 0⟩]) (.block 0 (.loop (.seq (.reg [⟨(.some 9), (.bin .lss (.t 8) (.t 7)), .none, 0⟩]) (.seq (.cond (.t 9) .skip (.exit 0)) (.seq (.block 1 (.seq (.reg [⟨(.some 10), (.mv (.t 8)), .none, 0⟩, ⟨(.some 5), (.mv (.t 10)), .none, 0⟩]) (.seq (.reg [⟨(.some 11), (.mv (.t 1)), .none, 0⟩, ⟨(.some 12), (.mv (.t 0)), .none, 0⟩, ⟨(.some 13), (.mv (.t 5)), .none, 0⟩, ⟨(.some 14), (.indexAddr 7 (.t 12) (.t 13)), .none, 0⟩, ⟨(.some 15), (.load (.some 7) (.t 14)), .none, 0⟩, ⟨(.some 16), (.callv (.t 11) [(.t 15)]), .none, 0⟩]) (.cond (.t 16) (.seq (.reg [⟨(.some 17), (.mv (.t 5)), .none, 0⟩, ⟨(.some 4), (.mv (.t 17)), .none, 0⟩]) .ret) .skip)))) (.reg [⟨(.some 18), (.bin .add (.t 8) (.c (.int .i64 1))), .none, 0⟩, ⟨(.some 8), (.mv (.t 18)), .none, 0⟩]))))))) (.seq (.reg [⟨(.some 4), (.mv (.c (.int .i64 (-1)))), .none, 0⟩]) .ret))), [(.t 4)]⟩
theorem cF_slices_IndexFunc_Specimen : cFn Tryz.prog n_slices_IndexFunc_Specimen g_slices_IndexFunc_Specimen = some F_slices_IndexFunc_Specimen := by kernel_rfl
abbrev n_precedence_place_1 : Nat := 68
def g_precedence_place_1 : Cfg := ⟨8, [0, 1, 2, 3], [], [], [], [], [], [2]⟩
def F_precedence_place_1 : CFn := ⟨(.seq (.reg [⟨(.some 2), (.boxF .none (.t 0)), .none, 0⟩, ⟨(.some 3), (.mv (.c (.bool false))), .none, 0⟩]) (.seq (.reg [⟨(.some 4), (.fieldAddr 0 (.t 2)), .none, 0⟩, ⟨(.some 5), (.load .none (.t 4)), .none, 0⟩, ⟨(.some 6), (.load .none (.t 1)), .none, 0⟩, ⟨(.some 7), (.bin .eql (.t 5) (.t 6)), .none, 0⟩, ⟨(.some 3), (.mv (.t 7)), .none, 0⟩]) .ret)), [(.t 3)]⟩
theorem cF_precedence_place_1 : cFn Tryz.prog n_precedence_place_1 g_precedence_place_1 = some F_precedence_place_1 := by kernel_rfl
abbrev n_cmp_isNaN_int : Nat := 71
def g_cmp_isNaN_int : Cfg := ⟨6, [0, 2], [], [], [], [], [], []⟩
def F_cmp_isNaN_int : CFn := ⟨(.seq (.reg [⟨(.some 2), (.mv (.c (.bool false))), .none, 0⟩]) (.seq (.reg [⟨(.some 3), (.mv (.t 0)), .none, 0⟩, ⟨(.some 4), (.mv (.t 0)), .none, 0⟩, ⟨(.some 5), (.bin .neq (.t 3) (.t 4)), .none, 0⟩, ⟨(.some 2), (.mv (.t 5)), .none, 0⟩]) .ret)), [(.t 2)]⟩
theorem cF_cmp_isNaN_int : cFn Tryz.prog n_cmp_isNaN_int g_cmp_isNaN_int = some F_cmp_isNaN_int := by kernel_rfl
abbrev n_slices_Compact_Arc : Nat := 50
def g_slices_Compact_Arc : Cfg := ⟨61, [0, 2, 3, 4, 5, 8, 13, 25, 32, 44], [], [], [], [], [], []⟩
def F_slices_Compact_Arc : CFn := ⟨(.seq (.reg [⟨(.some 2), (.mv (.c (.sl true 0 [] .full))), .none, 0⟩]) (.seq (.seq (.reg [⟨(.some 6), (.mv (.t 0)), .none, 0⟩, ⟨(.some 7), (.len (.t 6)), .none, 0⟩, ⟨(.some 8), (.bin .lss (.t 7) (.c (.int .i64 2))), .none, 0⟩]) (.cond (.t 8) (.seq (.reg [⟨(.some 9), (.mv (.t 0)), .none, 0⟩, ⟨(.some 2), (.mv (.t 9)), .none, 0⟩]) .ret) .skip)) (.seq (.seq (.reg [⟨(.some 3), (.mv (.c (.int .i64 1))), .none, 0⟩]) (.block 0 (.loop (.seq (.seq (.reg [⟨(.some 10), (.mv (.t 3)), .none, 0⟩, ⟨(.some 11), (.mv (.t 0)), .none, 0⟩, ⟨(.some 12), (.len (.t 11)), .none, 0⟩, ⟨(.some 13), (.bin .lss (.t 10) (.t 12)), .none, 0⟩]) (.cond (.t 13) .skip (.exit 0))) (.seq (.block 1 (.seq (.reg [⟨(.some 16), (.mv (.t 0)), .none, 0⟩, ⟨(.some 17), (.mv (.t 3)), .none, 0⟩, ⟨(.some 18), (.indexAddr 2 (.t 16) (.t 17)), .none, 0⟩, ⟨(.some 19), (.load (.some 2) (.t 18)), .none, 0⟩, ⟨(.some 20), (.mv (.t 0)), .none, 0⟩, ⟨(.some 21), (.mv (.t 3)), .none, 0⟩, ⟨(.some 22), (.bin .sub (.t 21) (.c (.int .i64 1))), .none, 0⟩, ⟨(.some 23), (.indexAddr 2 (.t 20) (.t 22)), .none, 0⟩, ⟨(.some 24), (.load (.some 2) (.t 23)), .none, 0⟩, ⟨(.some 25), (.eqv .ints false 2 (.t 19) (.t 24)), .none, 0⟩]) (.cond (.t 25) (.seq (.reg [⟨(.some 26), (.mv (.t 0)), .none, 0⟩, ⟨(.some 27), (.mv (.t 3)), .none, 0⟩, ⟨(.some 28), (.slice 2 (.t 26) (.some (.t 27)) .none .none), .none, 0⟩, ⟨(.some 4), (.mv (.t 28)), .none, 0⟩]) (.seq (.seq (.reg [⟨(.some 5), (.mv (.c (.int .i64 1))), .none, 0⟩]) (.block 2 (.loop (.seq (.seq (.reg [⟨(.some 29), (.mv (.t 5)), .none, 0⟩, ⟨(.some 30), (.mv (.t 4)), .none, 0⟩, ⟨(.some 31), (.len (.t 30)), .none, 0⟩, ⟨(.some 32), (.bin .lss (.t 29) (.t 31)), .none, 0⟩]) (.cond (.t 32) .skip (.exit 2))) (.seq (.block 3 (.seq (.reg [⟨(.some 35), (.mv (.t 4)), .none, 0⟩, ⟨(.some 36), (.mv (.t 5)), .none, 0⟩, ⟨(.some 37), (.indexAddr 2 (.t 35) (.t 36)), .none, 0⟩, ⟨(.some 38), (.load (.some 2) (.t 37)), .none, 0⟩, ⟨(.some 39), (.mv (.t 4)), .none, 0⟩, ⟨(.some 40), (.mv (.t 5)), .none, 0⟩, ⟨(.some 41), (.bin .sub (.t 40) (.c (.int .i64 1))), .none, 0⟩, ⟨(.some 42), (.indexAddr 2 (.t 39) (.t 41)), .none, 0⟩, ⟨(.some 43), (.load (.some 2) (.t 42)), .none, 0⟩, ⟨(.some 44), (.eqv .ints true 2 (.t 38) (.t 43)), .none, 0⟩]) (.cond (.t 44) (.seq (.reg [⟨(.some 45), (.mv (.t 0)), .none, 0⟩, ⟨(.some 46), (.mv (.t 3)), .none, 0⟩, ⟨(.some 47), (.mv (.t 4)), .none, 0⟩, ⟨(.some 48), (.mv (.t 5)), .none, 0⟩, ⟨(.some 49), (.indexAddr 2 (.t 47) (.t 48)), .none, 0⟩, ⟨(.some 50), (.load (.some 2) (.t 49)), .none, 0⟩, ⟨(.some 51), (.indexAddr 2 (.t 45) (.t 46)), .none, 0⟩, ⟨.none, (.store 2 (.t 51) (.t 50)), .none, 2⟩]) (.reg [⟨(.some 52), (.mv (.t 3)), .none, 0⟩, ⟨(.some 53), (.bin .add (.t 52) (.c (.int .i64 1))), .none, 0⟩, ⟨(.some 3), (.mv (.t 53)), .none, 0⟩])) .skip))) (.reg [⟨(.some 33), (.mv (.t 5)), .none, 0⟩, ⟨(.some 34), (.bin .add (.t 33) (.c (.int .i64 1))), .none, 0⟩, ⟨(.some 5), (.mv (.t 34)), .none, 0⟩])))))) (.seq (.reg [⟨(.some 54), (.mv (.t 0)), .none, 0⟩, ⟨(.some 55), (.mv (.t 3)), .none, 0⟩, ⟨(.some 56), (.slice 2 (.t 54) (.some (.t 55)) .none .none), .none, 0⟩, ⟨.none, (.clear 2 [(.int .i64 0), (.int .i64 0)] (.t 56)), .none, 2⟩]) (.seq (.reg [⟨(.some 57), (.mv (.t 0)), .none, 0⟩, ⟨(.some 58), (.mv (.t 3)), .none, 0⟩, ⟨(.some 59), (.slice 2 (.t 57) .none (.some (.t 58)) .none), .none, 0⟩, ⟨(.some 2), (.mv (.t 59)), .none, 0⟩]) .ret)))) .skip))) (.reg [⟨(.some 14), (.mv (.t 3)), .none, 0⟩, ⟨(.some 15), (.bin .add (.t 14) (.c (.int .i64 1))), .none, 0⟩, ⟨(.some 3), (.mv (.t 15)), .none, 0⟩])))))) (.seq (.reg [⟨(.some 60), (.mv (.t 0)), .none, 0⟩, ⟨(.some 2), (.mv (.t 60)), .none, 0⟩]) .ret)))), [(.t 2)]⟩
theorem cF_slices_Compact_Arc : cFn Tryz.prog n_slices_Compact_Arc g_slices_Compact_Arc = some F_slices_Compact_Arc := by kernel_rfl
abbrev n_specimen_Valid : Nat := 63
def g_specimen_Valid : Cfg := ⟨38, [0, 1, 2, 3], [], [], [], [], [], [1]⟩
def F_specimen_Valid : CFn := ⟨(.seq (.reg [⟨(.some 1), (.boxF .none (.t 0)), .none, 0⟩, ⟨(.some 2), (.mv (.c (.bool false))), .none, 0⟩]) (.seq (.reg [⟨(.some 4), (.fieldAddr 1 (.t 1)), .none, 0⟩, ⟨(.some 5), (.load .none (.t 4)), .none, 0⟩, ⟨(.some 6), (.call 74 [(.t 5), (.c (.int .i64 1)), (.c (.int .i64 999))]), .none, 0⟩, ⟨(.some 7), (.mv (.t 6)), .none, 0⟩, ⟨(.some 8), (.fieldAddr 2 (.t 1)), (.some (7, true)), 0⟩, ⟨(.some 9), (.load .none (.t 8)), (.some (7, true)), 0⟩, ⟨(.some 10), (.call 74 [(.t 9), (.c (.int .i64 1)), (.c (.int .i64 999))]), (.some (7, true)), 0⟩, ⟨(.some 11), (.pick (.t 7) (.t 10) (.c (.bool false))), .none, 0⟩, ⟨(.some 12), (.mv (.t 11)), .none, 0⟩, ⟨(.some 13), (.fieldAddr 3 (.t 1)), (.some (12, true)), 0⟩, ⟨(.some 14), (.load .none (.t 13)), (.some (12, true)), 0⟩, ⟨(.some 15), (.call 74 [(.t 14), (.c (.int .i64 1)), (.c (.int .i64 9))]), (.some (12, true)), 0⟩, ⟨(.some 16), (.pick (.t 12) (.t 15) (.c (.bool false))), .none, 0⟩, ⟨(.some 17), (.mv (.t 16)), .none, 0⟩, ⟨(.some 18), (.fieldAddr 4 (.t 1)), (.some (17, true)), 0⟩, ⟨(.some 19), (.load .none (.t 18)), (.some (17, true)), 0⟩, ⟨(.some 20), (.call 74 [(.t 19), (.c (.int .i64 1)), (.c (.int .i64 9))]), (.some (17, true)), 0⟩, ⟨(.some 21), (.pick (.t 17) (.t 20) (.c (.bool false))), .none, 0⟩, ⟨(.some 3), (.mv (.t 21)), .none, 0⟩]) (.seq (.reg [⟨(.some 22), (.mv (.t 3)), .none, 0⟩, ⟨(.some 23), (.mv (.t 22)), .none, 0⟩, ⟨(.some 24), (.fieldAddr 0 (.t 1)), (.some (23, true)), 0⟩, ⟨(.some 25), (.load .none (.t 24)), (.some (23, true)), 0⟩, ⟨(.some 26), (.call 74 [(.t 25), (.c (.int .i64 1)), (.c (.int .i64 9999))]), (.some (23, true)), 0⟩, ⟨(.some 27), (.pick (.t 23) (.t 26) (.c (.bool false))), .none, 0⟩, ⟨(.some 28), (.mv (.t 27)), .none, 0⟩, ⟨(.some 29), (.fieldAddr 5 (.t 1)), (.some (28, true)), 0⟩, ⟨(.some 30), (.load .none (.t 29)), (.some (28, true)), 0⟩, ⟨(.some 31), (.call 74 [(.t 30), (.c (.int .i64 0)), (.c (.int .i64 11))]), (.some (28, true)), 0⟩, ⟨(.some 32), (.pick (.t 28) (.t 31) (.c (.bool false))), .none, 0⟩, ⟨(.some 33), (.mv (.t 32)), .none, 0⟩, ⟨(.some 34), (.fieldAddr 6 (.t 1)), (.some (33, true)), 0⟩, ⟨(.some 35), (.load .none (.t 34)), (.some (33, true)), 0⟩, ⟨(.some 36), (.call 74 [(.t 35), (.c (.int .i64 1)), (.c (.int .i64 200000))]), (.some (33, true)), 0⟩, ⟨(.some 37), (.pick (.t 33) (.t 36) (.c (.bool false))), .none, 0⟩, ⟨(.some 2), (.mv (.t 37)), .none, 0⟩]) .ret))), [(.t 2)]⟩
theorem cF_specimen_Valid : cFn Tryz.prog n_specimen_Valid g_specimen_Valid = some F_specimen_Valid := by kernel_rfl
abbrev n_wear_side : Nat := 75
def g_wear_side : Cfg := ⟨16, [0, 1, 2, 4, 5, 7], [], [], [], [], [], [2]⟩
def F_wear_side : CFn := ⟨(.seq (.reg [⟨(.some 2), (.boxF .none (.t 0)), .none, 0⟩, ⟨(.some 4), (.mv (.c (.int .i64 0))), .none, 0⟩, ⟨(.some 5), (.mv (.c (.int .i64 0))), .none, 0⟩]) (.seq (.seq (.reg [⟨(.some 6), (.mv (.t 1)), .none, 0⟩, ⟨(.some 7), (.bin .eql (.t 6) (.c (.int .i64 0))), .none, 0⟩]) (.cond (.t 7) (.seq (.reg [⟨(.some 8), (.fieldAddr 1 (.t 2)), .none, 0⟩, ⟨(.some 9), (.load .none (.t 8)), .none, 0⟩, ⟨(.some 10), (.fieldAddr 3 (.t 2)), .none, 0⟩, ⟨(.some 11), (.load .none (.t 10)), .none, 0⟩, ⟨(.some 4), (.mv (.t 9)), .none, 0⟩, ⟨(.some 5), (.mv (.t 11)), .none, 0⟩]) .ret) .skip)) (.seq (.reg [⟨(.some 12), (.fieldAddr 2 (.t 2)), .none, 0⟩, ⟨(.some 13), (.load .none (.t 12)), .none, 0⟩, ⟨(.some 14), (.fieldAddr 4 (.t 2)), .none, 0⟩, ⟨(.some 15), (.load .none (.t 14)), .none, 0⟩, ⟨(.some 4), (.mv (.t 13)), .none, 0⟩, ⟨(.some 5), (.mv (.t 15)), .none, 0⟩]) .ret))), [(.t 4), (.t 5)]⟩
theorem cF_wear_side : cFn Tryz.prog n_wear_side g_wear_side = some F_wear_side := by kernel_rfl
abbrev n_poset_Valid : Nat := 25
def g_poset_Valid : Cfg := ⟨83, [0, 1, 4, 5, 6, 12, 13, 14, 15, 16, 46, 81], [], [], [], [], [], [6]⟩
def F_poset_Valid : CFn := ⟨(.seq (.reg [⟨(.some 4), (.mv (.c (.bool false))), .none, 0⟩]) (.seq (.seq (.reg [⟨(.some 7), (.mv (.t 0)), .none, 0⟩, ⟨(.some 8), (.bin .lss (.t 7) (.c (.int .i64 0))), .none, 0⟩, ⟨(.some 9), (.mv (.t 8)), .none, 0⟩, ⟨(.some 10), (.mv (.t 0)), (.some (9, false)), 0⟩, ⟨(.some 11), (.bin .gtr (.t 10) (.c (.int .i64 24))), (.some (9, false)), 0⟩, ⟨(.some 12), (.pick (.t 9) (.c (.bool true)) (.t 11)), .none, 0⟩]) (.cond (.t 12) (.seq (.reg [⟨(.some 4), (.mv (.c (.bool false))), .none, 0⟩]) .ret) .skip)) (.seq (.seq (.reg [⟨(.some 13), (.mv (.t 1)), .none, 0⟩, ⟨(.some 14), (.len (.t 13)), .none, 0⟩, ⟨(.some 15), (.mv (.c (.int .i64 0))), .none, 0⟩]) (.block 0 (.loop (.seq (.reg [⟨(.some 16), (.bin .lss (.t 15) (.t 14)), .none, 0⟩]) (.seq (.cond (.t 16) .skip (.exit 0)) (.seq (.block 1 (.seq (.reg [⟨(.some 17), (.mv (.t 15)), .none, 0⟩, ⟨(.some 18), (.indexAddr 2 (.t 13) (.t 15)), .none, 0⟩, ⟨(.some 19), (.load (.some 2) (.t 18)), .none, 0⟩, ⟨(.some 5), (.mv (.t 17)), .none, 0⟩, ⟨(.some 6), (.boxF (.some 2) (.t 19)), .none, 0⟩]) (.seq (.seq (.reg [⟨(.some 20), (.fieldAddr 0 (.t 6)), .none, 0⟩, ⟨(.some 21), (.load .none (.t 20)), .none, 0⟩, ⟨(.some 22), (.bin .lss (.t 21) (.c (.int .i64 0))), .none, 0⟩, ⟨(.some 23), (.mv (.t 22)), .none, 0⟩, ⟨(.some 24), (.fieldAddr 0 (.t 6)), (.some (23, false)), 0⟩, ⟨(.some 25), (.load .none (.t 24)), (.some (23, false)), 0⟩, ⟨(.some 26), (.mv (.t 0)), (.some (23, false)), 0⟩, ⟨(.some 27), (.bin .geq (.t 25) (.t 26)), (.some (23, false)), 0⟩, ⟨(.some 28), (.pick (.t 23) (.c (.bool true)) (.t 27)), .none, 0⟩, ⟨(.some 29), (.mv (.t 28)), .none, 0⟩, ⟨(.some 30), (.fieldAddr 1 (.t 6)), (.some (29, false)), 0⟩, ⟨(.some 31), (.load .none (.t 30)), (.some (29, false)), 0⟩, ⟨(.some 32), (.bin .lss (.t 31) (.c (.int .i64 0))), (.some (29, false)), 0⟩, ⟨(.some 33), (.pick (.t 29) (.c (.bool true)) (.t 32)), .none, 0⟩, ⟨(.some 34), (.mv (.t 33)), .none, 0⟩, ⟨(.some 35), (.fieldAddr 1 (.t 6)), (.some (34, false)), 0⟩, ⟨(.some 36), (.load .none (.t 35)), (.some (34, false)), 0⟩, ⟨(.some 37), (.mv (.t 0)), (.some (34, false)), 0⟩, ⟨(.some 38), (.bin .geq (.t 36) (.t 37)), (.some (34, false)), 0⟩, ⟨(.some 39), (.pick (.t 34) (.c (.bool true)) (.t 38)), .none, 0⟩, ⟨(.some 40), (.mv (.t 39)), .none, 0⟩, ⟨(.some 41), (.fieldAddr 0 (.t 6)), (.some (40, false)), 0⟩, ⟨(.some 42), (.load .none (.t 41)), (.some (40, false)), 0⟩, ⟨(.some 43), (.fieldAddr 1 (.t 6)), (.some (40, false)), 0⟩, ⟨(.some 44), (.load .none (.t 43)), (.some (40, false)), 0⟩, ⟨(.some 45), (.bin .eql (.t 42) (.t 44)), (.some (40, false)), 0⟩, ⟨(.some 46), (.pick (.t 40) (.c (.bool true)) (.t 45)), .none, 0⟩]) (.cond (.t 46) (.seq (.reg [⟨(.some 4), (.mv (.c (.bool false))), .none, 0⟩]) .ret) .skip)) (.seq (.reg [⟨(.some 47), (.mv (.t 5)), .none, 0⟩, ⟨(.some 48), (.bin .gtr (.t 47) (.c (.int .i64 0))), .none, 0⟩, ⟨(.some 49), (.mv (.t 48)), .none, 0⟩, ⟨(.some 50), (.fieldAddr 0 (.t 6)), (.some (49, true)), 0⟩, ⟨(.some 51), (.load .none (.t 50)), (.some (49, true)), 0⟩, ⟨(.some 52), (.mv (.t 1)), (.some (49, true)), 0⟩, ⟨(.some 53), (.mv (.t 5)), (.some (49, true)), 0⟩, ⟨(.some 54), (.bin .sub (.t 53) (.c (.int .i64 1))), (.some (49, true)), 0⟩, ⟨(.some 55), (.indexAddr 2 (.t 52) (.t 54)), (.some (49, true)), 0⟩, ⟨(.some 56), (.fieldAddr 0 (.t 55)), (.some (49, true)), 0⟩, ⟨(.some 57), (.load .none (.t 56)), (.some (49, true)), 0⟩, ⟨(.some 58), (.bin .lss (.t 51) (.t 57)), (.some (49, true)), 0⟩, ⟨(.some 59), (.mv (.t 58)), (.some (49, true)), 0⟩, ⟨(.some 60), (.fieldAddr 0 (.t 6)), (.some (59, false)), 0⟩, ⟨(.some 61), (.load .none (.t 60)), (.some (59, false)), 0⟩, ⟨(.some 62), (.mv (.t 1)), (.some (59, false)), 0⟩, ⟨(.some 63), (.mv (.t 5)), (.some (59, false)), 0⟩, ⟨(.some 64), (.bin .sub (.t 63) (.c (.int .i64 1))), (.some (59, false)), 0⟩, ⟨(.some 65), (.indexAddr 2 (.t 62) (.t 64)), (.some (59, false)), 0⟩, ⟨(.some 66), (.fieldAddr 0 (.t 65)), (.some (59, false)), 0⟩, ⟨(.some 67), (.load .none (.t 66)), (.some (59, false)), 0⟩, ⟨(.some 68), (.bin .eql (.t 61) (.t 67)), (.some (59, false)), 0⟩, ⟨(.some 69), (.mv (.t 68)), (.some (59, false)), 0⟩, ⟨(.some 70), (.fieldAddr 1 (.t 6)), (.some (69, true)), 0⟩, ⟨(.some 71), (.load .none (.t 70)), (.some (69, true)), 0⟩, ⟨(.some 72), (.mv (.t 1)), (.some (69, true)), 0⟩, ⟨(.some 73), (.mv (.t 5)), (.some (69, true)), 0⟩, ⟨(.some 74), (.bin .sub (.t 73) (.c (.int .i64 1))), (.some (69, true)), 0⟩, ⟨(.some 75), (.indexAddr 2 (.t 72) (.t 74)), (.some (69, true)), 0⟩, ⟨(.some 76), (.fieldAddr 1 (.t 75)), (.some (69, true)), 0⟩, ⟨(.some 77), (.load .none (.t 76)), (.some (69, true)), 0⟩, ⟨(.some 78), (.bin .leq (.t 71) (.t 77)), (.some (69, true)), 0⟩, ⟨(.some 79), (.pick (.t 69) (.t 78) (.c (.bool false))), (.some (59, false)), 0⟩, ⟨(.some 80), (.pick (.t 59) (.c (.bool true)) (.t 79)), (.some (49, true)), 0⟩, ⟨(.some 81), (.pick (.t 49) (.t 80) (.c (.bool false))), .none, 0⟩]) (.cond (.t 81) (.seq (.reg [⟨(.some 4), (.mv (.c (.bool false))), .none, 0⟩]) .ret) .skip))))) (.reg [⟨(.some 82), (.bin .add (.t 15) (.c (.int .i64 1))), .none, 0⟩, ⟨(.some 15), (.mv (.t 82)), .none, 0⟩]))))))) (.seq (.reg [⟨(.some 4), (.mv (.c (.bool true))), .none, 0⟩]) .ret)))), [(.t 4)]⟩
theorem cF_poset_Valid : cFn Tryz.prog n_poset_Valid g_poset_Valid = some F_poset_Valid := by kernel_rfl
abbrev n_poset_acyclic : Nat := 51
def g_poset_acyclic : Cfg := ⟨16, [0, 2, 3, 4, 5, 6, 7, 8, 14], [], [], [], [], [], []⟩
def F_poset_acyclic : CFn := ⟨(.seq (.reg [⟨(.some 2), (.mv (.c (.bool false))), .none, 0⟩]) (.seq (.seq (.reg [⟨(.some 5), (.mv (.t 0)), .none, 0⟩, ⟨(.some 6), (.len (.t 5)), .none, 0⟩, ⟨(.some 7), (.mv (.c (.int .i64 0))), .none, 0⟩]) (.block 0 (.loop (.seq (.reg [⟨(.some 8), (.bin .lss (.t 7) (.t 6)), .none, 0⟩]) (.seq (.cond (.t 8) .skip (.exit 0)) (.seq (.block 1 (.seq (.reg [⟨(.some 9), (.mv (.t 7)), .none, 0⟩, ⟨(.some 10), (.indexAddr 1 (.t 5) (.t 7)), .none, 0⟩, ⟨(.some 11), (.load .none (.t 10)), .none, 0⟩, ⟨(.some 3), (.mv (.t 9)), .none, 0⟩, ⟨(.some 4), (.mv (.t 11)), .none, 0⟩]) (.seq (.reg [⟨(.some 12), (.mv (.t 4)), .none, 0⟩, ⟨(.some 13), (.mv (.t 3)), .none, 0⟩, ⟨(.some 14), (.call 28 [(.t 12), (.t 13)]), .none, 0⟩]) (.cond (.t 14) (.seq (.reg [⟨(.some 2), (.mv (.c (.bool false))), .none, 0⟩]) .ret) .skip)))) (.reg [⟨(.some 15), (.bin .add (.t 7) (.c (.int .i64 1))), .none, 0⟩, ⟨(.some 7), (.mv (.t 15)), .none, 0⟩]))))))) (.seq (.reg [⟨(.some 2), (.mv (.c (.bool true))), .none, 0⟩]) .ret))), [(.t 2)]⟩
theorem cF_poset_acyclic : cFn Tryz.prog n_poset_acyclic g_poset_acyclic = some F_poset_acyclic := by kernel_rfl
abbrev n_wear_Before_1 : Nat := 65
def g_wear_Before_1 : Cfg := ⟨10, [0, 1, 2, 3, 4, 5], [], [], [], [], [], [3, 4]⟩
def F_wear_Before_1 : CFn := ⟨(.seq (.reg [⟨(.some 3), (.boxF .none (.t 0)), .none, 0⟩, ⟨(.some 4), (.boxF .none (.t 1)), .none, 0⟩, ⟨(.some 5), (.mv (.c (.bool false))), .none, 0⟩]) (.seq (.reg [⟨(.some 6), (.load (.some 7) (.t 3)), .none, 0⟩, ⟨(.some 7), (.load (.some 7) (.t 4)), .none, 0⟩, ⟨(.some 8), (.load .none (.t 2)), .none, 0⟩, ⟨(.some 9), (.call 66 [(.t 6), (.t 7), (.t 8)]), .none, 0⟩, ⟨(.some 5), (.mv (.t 9)), .none, 0⟩]) .ret)), [(.t 5)]⟩
theorem cF_wear_Before_1 : cFn Tryz.prog n_wear_Before_1 g_wear_Before_1 = some F_wear_Before_1 := by kernel_rfl
abbrev n_specimen_in : Nat := 74
def g_specimen_in : Cfg := ⟨15, [0, 1, 2, 6], [], [], [], [], [], []⟩
def F_specimen_in : CFn := ⟨(.seq (.reg [⟨(.some 6), (.mv (.c (.bool false))), .none, 0⟩]) (.seq (.reg [⟨(.some 7), (.mv (.t 0)), .none, 0⟩, ⟨(.some 8), (.mv (.t 1)), .none, 0⟩, ⟨(.some 9), (.bin .geq (.t 7) (.t 8)), .none, 0⟩, ⟨(.some 10), (.mv (.t 9)), .none, 0⟩, ⟨(.some 11), (.mv (.t 0)), (.some (10, true)), 0⟩, ⟨(.some 12), (.mv (.t 2)), (.some (10, true)), 0⟩, ⟨(.some 13), (.bin .leq (.t 11) (.t 12)), (.some (10, true)), 0⟩, ⟨(.some 14), (.pick (.t 10) (.t 13) (.c (.bool false))), .none, 0⟩, ⟨(.some 6), (.mv (.t 14)), .none, 0⟩]) .ret)), [(.t 6)]⟩
theorem cF_specimen_in : cFn Tryz.prog n_specimen_in g_specimen_in = some F_specimen_in := by kernel_rfl
abbrev n_poset_set_has : Nat := 28
def g_poset_set_has : Cfg := ⟨10, [0, 1, 4], [], [], [], [], [], []⟩
def F_poset_set_has : CFn := ⟨(.seq (.reg [⟨(.some 4), (.mv (.c (.bool false))), .none, 0⟩]) (.seq (.reg [⟨(.some 5), (.mv (.t 0)), .none, 0⟩, ⟨(.some 6), (.mv (.t 1)), .none, 0⟩, ⟨(.some 7), (.bin .shr (.t 5) (.t 6)), .none, 0⟩, ⟨(.some 8), (.bin .and (.t 7) (.c (.int .u32 1))), .none, 0⟩, ⟨(.some 9), (.bin .neq (.t 8) (.c (.int .u32 0))), .none, 0⟩, ⟨(.some 4), (.mv (.t 9)), .none, 0⟩]) .ret)), [(.t 4)]⟩
theorem cF_poset_set_has : cFn Tryz.prog n_poset_set_has g_poset_set_has = some F_poset_set_has := by kernel_rfl
abbrev n_poset_next : Nat := 26
def g_poset_next : Cfg := ⟨28, [0, 1, 4, 5, 7, 10, 11, 12, 13], [], [], [], [], [], [7]⟩
def F_poset_next : CFn := ⟨(.seq (.reg [⟨(.some 4), (.mv (.c (.sl true 0 [] .full))), .none, 0⟩]) (.seq (.reg [⟨(.some 8), (.mv (.t 0)), .none, 0⟩, ⟨(.some 9), (.makeSlice 1 4 [(.int .u32 0)] (.t 8) (.t 8)), .none, 1⟩, ⟨(.some 5), (.mv (.t 9)), .none, 0⟩]) (.seq (.seq (.reg [⟨(.some 10), (.mv (.t 1)), .none, 0⟩, ⟨(.some 11), (.len (.t 10)), .none, 0⟩, ⟨(.some 12), (.mv (.c (.int .i64 0))), .none, 0⟩]) (.block 0 (.loop (.seq (.reg [⟨(.some 13), (.bin .lss (.t 12) (.t 11)), .none, 0⟩]) (.seq (.cond (.t 13) .skip (.exit 0)) (.seq (.block 1 (.seq (.reg [⟨(.some 14), (.indexAddr 2 (.t 10) (.t 12)), .none, 0⟩, ⟨(.some 15), (.load (.some 2) (.t 14)), .none, 0⟩, ⟨(.some 7), (.boxF (.some 2) (.t 15)), .none, 0⟩]) (.reg [⟨(.some 16), (.mv (.t 5)), .none, 0⟩, ⟨(.some 17), (.fieldAddr 0 (.t 7)), .none, 0⟩, ⟨(.some 18), (.load .none (.t 17)), .none, 0⟩, ⟨(.some 19), (.indexAddr 1 (.t 16) (.t 18)), .none, 0⟩, ⟨(.some 20), (.load .none (.t 19)), .none, 0⟩, ⟨(.some 21), (.fieldAddr 1 (.t 7)), .none, 0⟩, ⟨(.some 22), (.load .none (.t 21)), .none, 0⟩, ⟨(.some 23), (.bin .shl (.c (.int .u32 1)) (.t 22)), .none, 0⟩, ⟨(.some 24), (.bin .or (.t 20) (.t 23)), .none, 0⟩, ⟨(.some 25), (.indexAddr 1 (.t 16) (.t 18)), .none, 0⟩, ⟨.none, (.store 1 (.t 25) (.t 24)), .none, 2⟩]))) (.reg [⟨(.some 26), (.bin .add (.t 12) (.c (.int .i64 1))), .none, 0⟩, ⟨(.some 12), (.mv (.t 26)), .none, 0⟩]))))))) (.seq (.reg [⟨(.some 27), (.mv (.t 5)), .none, 0⟩, ⟨(.some 4), (.mv (.t 27)), .none, 0⟩]) .ret)))), [(.t 4)]⟩
theorem cF_poset_next : cFn Tryz.prog n_poset_next g_poset_next = some F_poset_next := by kernel_rfl
abbrev n_wear_BeforeX : Nat := 44
def g_wear_BeforeX : Cfg := ⟨21, [0, 1, 3, 4, 5, 6, 10, 17], [], [], [], [], [], [3]⟩
def F_wear_BeforeX : CFn := ⟨(.seq (.reg [⟨(.some 3), (.boxF .none (.t 1)), .none, 0⟩, ⟨(.some 4), (.mv (.c (.sl true 0 [] .full))), .none, 0⟩, ⟨(.some 5), (.mv (.c (.int .i64 0))), .none, 0⟩]) (.seq (.seq (.reg [⟨(.some 7), (.mv (.t 0)), .none, 0⟩, ⟨(.some 8), (.call 43 [(.t 7)]), .none, 0⟩, ⟨(.some 6), (.mv (.t 8)), .none, 0⟩]) (.seq (.reg [⟨(.some 9), (.mv (.t 6)), .none, 0⟩, ⟨(.some 10), (.bin .neq (.t 9) (.c (.int .i64 0))), .none, 0⟩]) (.cond (.t 10) (.seq (.reg [⟨(.some 11), (.mv (.t 6)), .none, 0⟩, ⟨(.some 4), (.mv (.c (.sl true 0 [] .full))), .none, 0⟩, ⟨(.some 5), (.mv (.t 11)), .none, 0⟩]) .ret) .skip))) (.seq (.seq (.reg [⟨(.some 12), (.load .none (.t 3)), .none, 0⟩, ⟨(.some 13), (.bin .neq (.t 12) (.c (.int .i64 0))), .none, 0⟩, ⟨(.some 14), (.mv (.t 13)), .none, 0⟩, ⟨(.some 15), (.load .none (.t 3)), (.some (14, true)), 0⟩, ⟨(.some 16), (.bin .neq (.t 15) (.c (.int .i64 1))), (.some (14, true)), 0⟩, ⟨(.some 17), (.pick (.t 14) (.t 16) (.c (.bool false))), .none, 0⟩]) (.cond (.t 17) (.seq (.reg [⟨(.some 4), (.mv (.c (.sl true 0 [] .full))), .none, 0⟩, ⟨(.some 5), (.mv (.c (.int .i64 2))), .none, 0⟩]) .ret) .skip)) (.seq (.reg [⟨(.some 18), (.mv (.t 0)), .none, 0⟩, ⟨(.some 19), (.makeFunc 65 [(.t 3)]), .none, 0⟩, ⟨(.some 20), (.call 64 [(.t 18), (.t 19)]), .none, 0⟩, ⟨(.some 4), (.mv (.t 20)), .none, 0⟩, ⟨(.some 5), (.mv (.c (.int .i64 0))), .none, 0⟩]) .ret)))), [(.t 4), (.t 5)]⟩
theorem cF_wear_BeforeX : cFn Tryz.prog n_wear_BeforeX g_wear_BeforeX = some F_wear_BeforeX := by kernel_rfl
end Go.Proofs.YtidmekdkfiljjaaGreat.P
namespace Go.Abs
open Go
set_option linter.unusedSimpArgs false
set_option linter.unusedVariables false

theorem AH.put_comm (h : AH) {b c : Nat} (x y : List AV) (hbc : b ≠ c) : (h.put b x).put c y = (h.put c y).put b x := by
  simp only [AH.put, AH.mk.injEq, and_true]
  funext d
  by_cases hd : d = b <;> by_cases hc : d = c <;> simp_all
theorem AH.put_same {h : AH} {b : Nat} {x : List AV} (hb : h.blk b = some x) : h.put b x = h := by
  cases h with
  | mk blk tok mp =>
    simp only [AH.put, AH.mk.injEq, and_true]
    funext d
    by_cases hd : d = b
    · subst hd; simp; exact hb.symm
    · simp [hd]
theorem AH.le_put2 {h h' : AH} {b : Nat} {x : List AV} (hl : h.le h') : (h.put b x).le (h'.put b x) := by
  refine ⟨fun z w hz => ?_, fun _ _ hz => hl.tok _ _ hz, fun _ _ hz => hl.mp _ _ hz⟩
  simp only [AH.put] at hz ⊢
  split
  · rename_i hzb; subst hzb; simpa using hz
  · rename_i hzb
    rw [if_neg hzb] at hz
    exact hl.blk _ _ hz
/-- A block that is not known is forgotten. -/
theorem AH.le_new (h : AH) {c : Nat} (y : List AV) (hc : h.blk c = none) : h.le (h.put c y) := AH.le_put (AH.le.refl h) hc

/-! ### Bits -/
theorem wrap_nat {m : Nat} (h : m < 9223372036854775808) : IntKind.wrap .i64 (m : Int) = m := wrap_in (by rw [inR64]; omega)
theorem fdiv_pow (m i : Nat) : Int.fdiv (m : Int) (2 ^ i) = ((m / 2 ^ i : Nat) : Int) := by
  rw [Int.fdiv_eq_ediv_of_nonneg _ (Int.le_of_lt (Int.pow_pos (by decide)))]
  rw [show (2 : Int) ^ i = ((2 ^ i : Nat) : Int) by simp]
  exact (Int.natCast_ediv _ _).symm
theorem ofInt_nat (m : Nat) : BitVec.ofInt 64 (m : Int) = BitVec.ofNat 64 m := by simp
theorem bit_and {x y : Nat} (hx : x < 9223372036854775808) (hy : y < 9223372036854775808) : bitop .and .i64 (x : Int) (y : Int) = ((x &&& y : Nat) : Int) := by
  have h1 : x &&& y ≤ x := Nat.and_le_left
  show IntKind.wrap .i64 (((BitVec.ofInt 64 (x : Int) &&& BitVec.ofInt 64 (y : Int)).toNat : Nat) : Int) = _
  rw [ofInt_nat, ofInt_nat, BitVec.toNat_and, BitVec.toNat_ofNat, BitVec.toNat_ofNat, Nat.mod_eq_of_lt (by omega), Nat.mod_eq_of_lt (by omega), wrap_nat (by omega)]
theorem bit_or {x y : Nat} (hx : x < 9223372036854775808) (hy : y < 9223372036854775808) : bitop .or .i64 (x : Int) (y : Int) = ((x ||| y : Nat) : Int) := by
  have h1 : x ||| y < 2 ^ 63 := Nat.or_lt_two_pow (by omega) (by omega)
  show IntKind.wrap .i64 (((BitVec.ofInt 64 (x : Int) ||| BitVec.ofInt 64 (y : Int)).toNat : Nat) : Int) = _
  rw [ofInt_nat, ofInt_nat, BitVec.toNat_or, BitVec.toNat_ofNat, BitVec.toNat_ofNat, Nat.mod_eq_of_lt (by omega), Nat.mod_eq_of_lt (by omega), wrap_nat (by omega)]
/-- The bit of a number, as the code asks for it. -/
theorem bit_at {m i : Nat} (hm : m < 9223372036854775808) (hi : i ≤ 64) : bitop .and .i64 (Int.fdiv (m : Int) (2 ^ (Nat.min i 64))) 1 = if m.testBit i then 1 else 0 := by
  have e1 : Nat.min i 64 = i := by exact Nat.min_eq_left hi
  rw [e1, fdiv_pow]
  have h1 : m / 2 ^ i ≤ m := Nat.div_le_self _ _
  have h2 := bit_and (x := m / 2 ^ i) (y := 1) (by omega) (by omega)
  rw [show ((1 : Nat) : Int) = 1 from rfl] at h2
  rw [h2, Nat.and_one_is_mod, Nat.testBit_eq_decide_div_mod_eq]
  have := Nat.mod_two_eq_zero_or_one (m / 2 ^ i)
  rcases this with h | h <;> simp [h]
theorem shl_one {i : Nat} (hi : i ≤ 62) : IntKind.wrap .i64 (1 * 2 ^ (Nat.min i 64)) = ((2 ^ i : Nat) : Int) := by
  have e1 : Nat.min i 64 = i := by exact Nat.min_eq_left (by omega)
  rw [e1, Int.one_mul, show (2 : Int) ^ i = ((2 ^ i : Nat) : Int) by simp]
  refine wrap_nat ?_
  have : 2 ^ i ≤ 2 ^ 62 := Nat.pow_le_pow_right (by decide) hi
  omega
end Go.Abs
namespace Go.Abs
open Go
set_option linter.unusedSimpArgs false
set_option linter.unusedVariables false

/-- The first index below n at which p holds, or -1. -/
def findI (p : Nat → Bool) : Nat → Int
  | 0 => -1
  | n + 1 => match findI p n with
    | .negSucc _ => if p n then (n : Int) else -1
    | .ofNat k => .ofNat k
theorem findI_neg {p : Nat → Bool} : ∀ {n : Nat}, (∀ j, j < n → p j = false) → findI p n = -1 := by
  intro n
  induction n with
  | zero => intro _; rfl
  | succ n ih => intro h; simp only [findI]; rw [ih (fun j hj => h j (by omega))]; rw [h n (by omega)]; rfl
theorem findI_at {p : Nat → Bool} {i : Nat} (hi : p i = true) (h : ∀ j, j < i → p j = false) : ∀ {n : Nat}, i < n → findI p n = i := by
  intro n
  induction n with
  | zero => intro hn; omega
  | succ n ih =>
    intro hn
    simp only [findI]
    by_cases hin : i < n
    · rw [ih hin]; rfl
    · have : i = n := by omega
      subst this
      rw [findI_neg h, hi]; rfl
theorem findI_nonneg {p : Nat → Bool} {n : Nat} : (0 ≤ findI p n) ↔ (List.range n).any p = true := by
  by_cases h : ∃ i, i < n ∧ p i = true
  · have hex : ∃ i, p i = true ∧ i < n := by obtain ⟨i, h1, h2⟩ := h; exact ⟨i, h2, h1⟩
    obtain ⟨i, h1, h2, h3⟩ : ∃ i, i < n ∧ p i = true ∧ ∀ j, j < i → p j = false := by
      clear h
      obtain ⟨i, hi⟩ := hex
      induction i using Nat.strongRecOn with
      | ind i ih =>
        by_cases hj : ∃ j, j < i ∧ p j = true
        · obtain ⟨j, h1, h2⟩ := hj
          exact ih j h1 ⟨h2, by omega⟩
        · exact ⟨i, hi.2, hi.1, fun j hj' => by
            cases hp : p j with
            | false => rfl
            | true => exact absurd ⟨j, hj', hp⟩ hj⟩
    rw [findI_at h2 h3 h1]
    simp only [List.any_eq_true, List.mem_range]
    exact ⟨fun _ => ⟨i, h1, h2⟩, fun _ => by omega⟩
  · have h' : ∀ j, j < n → p j = false := fun j hj => by
      cases hp : p j with
      | false => rfl
      | true => exact absurd ⟨j, hj, hp⟩ h
    rw [findI_neg h']
    simp only [List.any_eq_true, List.mem_range]
    exact ⟨fun hh => by omega, fun hh => absurd hh h⟩

theorem anyI (p : Nat → Bool) (n : Nat) : decide (0 ≤ findI p n) = (List.range n).any p := by
  rw [Bool.eq_iff_iff]; simp only [decide_eq_true_eq]; exact findI_nonneg
theorem AV.le.slice {nl : Bool} {n : Nat} {cs cs' : List AV} {tl : Tail} (hl : cs'.length = cs.length) (h : ∀ (j : Nat) (x y : AV), cs'[j]? = some x → cs[j]? = some y → AV.le x y) : AV.le (.sl nl n cs' .unk) (.sl nl n cs tl) := by
  intro s v hv
  cases hv with
  | sl _ _ _ _ a cap vs hlen hrel hfx hnil hnone hspot hcap hmax htl =>
    refine .sl nl n cs' .unk a cap vs (by omega) (fun j x v hx hv => ?_) hfx hnil hnone hspot hcap hmax trivial
    have hj : j < cs.length := by rw [← hl]; exact (List.getElem?_eq_some_iff.1 hx).1
    exact h j x _ hx (List.getElem?_eq_getElem hj) s v (hrel j _ v (List.getElem?_eq_getElem hj) hv)
theorem flat_rep (n : Nat) (x : AV) : (List.replicate n [x]).flatten = List.replicate n x := by
  induction n with
  | zero => rfl
  | succ n ih => rw [List.replicate_succ, List.flatten_cons, ih, List.replicate_succ]; rfl

theorem findI_mem (v : Int) (e : List Int) : decide (0 ≤ findI (fun i => decide (v = e.getD i 0)) e.length) = decide (v ∈ e) := by
  rw [anyI, Bool.eq_iff_iff]
  simp only [List.any_eq_true, List.mem_range, decide_eq_true_eq]
  constructor
  · rintro ⟨i, hi, rfl⟩; exact mem_getD hi
  · intro h
    obtain ⟨i, hi, he⟩ := List.getElem_of_mem h
    exact ⟨i, hi, by simp [List.getD, hi, he]⟩
theorem prs_take (e : List (Int × Int)) (n : Nat) : (prs e).take (n * 2) = prs (e.take n) := by
  induction e generalizing n with
  | nil => simp [prs]
  | cons p e ih =>
    have hp : prs (p :: e) = AV.int .i64 p.1 :: AV.int .i64 p.2 :: prs e := rfl
    cases n with
    | zero => simp [prs]
    | succ n =>
      rw [hp, show (n + 1) * 2 = n * 2 + 1 + 1 by omega, List.take_succ_cons, List.take_succ_cons, ih n]
      rfl
/-- A slice of numbers, nil exactly where it is empty. -/
def asl (l : List Int) : AV := .sl (decide (l = [])) l.length (i64s l) .unk
theorem lt_succ_cases {j i : Nat} (h : j < i + 1) : j < i ∨ j = i := Nat.lt_succ_iff_lt_or_eq.1 h
/-- Each one below i + 1. -/
theorem all_succ {p : Nat → Prop} {i : Nat} (h : ∀ j, j < i → p j) (hi : p i) : ∀ j, j < i + 1 → p j := fun j hj => by
  rcases lt_succ_cases hj with hj | rfl
  · exact h j hj
  · exact hi
/-- Triples of numbers. -/
def trs (e : List (Int × Int × Int)) : List AV := e.flatMap fun p => [AV.int .i64 p.1, AV.int .i64 p.2.1, AV.int .i64 p.2.2]
theorem trs_len (e : List (Int × Int × Int)) : (trs e).length = e.length * 3 := by
  induction e with
  | nil => rfl
  | cons p e ih =>
    have : trs (p :: e) = AV.int .i64 p.1 :: AV.int .i64 p.2.1 :: AV.int .i64 p.2.2 :: trs e := rfl
    rw [this]; simp only [List.length_cons, ih]; omega
theorem trs_drop {e : List (Int × Int × Int)} : ∀ {i : Nat}, i < e.length → (trs e).drop (i * 3) = AV.int .i64 (e.getD i (0, 0, 0)).1 :: AV.int .i64 (e.getD i (0, 0, 0)).2.1 :: AV.int .i64 (e.getD i (0, 0, 0)).2.2 :: (trs e).drop (i * 3 + 3) := by
  induction e with
  | nil => intro i h; simp at h
  | cons p e ih =>
    intro i h
    have : trs (p :: e) = AV.int .i64 p.1 :: AV.int .i64 p.2.1 :: AV.int .i64 p.2.2 :: trs e := rfl
    cases i with
    | zero => rfl
    | succ i =>
      rw [this, show (i + 1) * 3 = i * 3 + 1 + 1 + 1 by omega, List.drop_succ_cons, List.drop_succ_cons, List.drop_succ_cons]
      rw [ih (i := i) (by simpa using h)]
      simp
theorem trs_append (xs ys : List (Int × Int × Int)) : trs (xs ++ ys) = trs xs ++ trs ys := by simp [trs]
theorem inRu32 {n : Int} : InR .u32 n ↔ 0 ≤ n ∧ n ≤ 4294967295 := by
  simp [InR, IntKind.min, IntKind.max, IntKind.signed, IntKind.bits]
theorem wrap_u32 {m : Nat} (h : m < 4294967296) : IntKind.wrap .u32 (m : Int) = m := wrap_in (by rw [inRu32]; omega)
theorem ofInt32_nat (m : Nat) : BitVec.ofInt 32 (m : Int) = BitVec.ofNat 32 m := by simp
theorem bitu32_and {x y : Nat} (hx : x < 4294967296) (hy : y < 4294967296) : bitop .and .u32 (x : Int) (y : Int) = ((x &&& y : Nat) : Int) := by
  have h1 : x &&& y ≤ x := Nat.and_le_left
  show IntKind.wrap .u32 (((BitVec.ofInt 32 (x : Int) &&& BitVec.ofInt 32 (y : Int)).toNat : Nat) : Int) = _
  rw [ofInt32_nat, ofInt32_nat, BitVec.toNat_and, BitVec.toNat_ofNat, BitVec.toNat_ofNat, Nat.mod_eq_of_lt (by omega), Nat.mod_eq_of_lt (by omega), wrap_u32 (by omega)]
theorem bitu32_or {x y : Nat} (hx : x < 4294967296) (hy : y < 4294967296) : bitop .or .u32 (x : Int) (y : Int) = ((x ||| y : Nat) : Int) := by
  have h1 : x ||| y < 2 ^ 32 := Nat.or_lt_two_pow (by omega) (by omega)
  show IntKind.wrap .u32 (((BitVec.ofInt 32 (x : Int) ||| BitVec.ofInt 32 (y : Int)).toNat : Nat) : Int) = _
  rw [ofInt32_nat, ofInt32_nat, BitVec.toNat_or, BitVec.toNat_ofNat, BitVec.toNat_ofNat, Nat.mod_eq_of_lt (by omega), Nat.mod_eq_of_lt (by omega), wrap_u32 (by omega)]
end Go.Abs
namespace Go.Abs
open Go
set_option linter.unusedSimpArgs false
set_option linter.unusedVariables false

/-- A list of numbers that can be read. -/
def Rd (h : AH) (x : AV) (xs : List Int) : Prop := (∃ nl tl, x = .sl nl xs.length (i64s xs) tl) ∨ ∃ b cap rest, x = .msl b 0 xs.length cap ∧ h.blk b = some (i64s xs ++ rest)
def adr (x : AV) (j : Nat) : AV := match x with
  | .sl _ _ cs _ => .sptr (cs.drop j)
  | .msl b off _ _ => .ptr b (off + j)
  | _ => .undef
theorem Rd.leB {h h' : AH} {x : AV} {xs : List Int} (k : Rd h x xs) (hl : AH.leB h h') : Rd h' x xs := by
  rcases k with k | ⟨b, cap, rest, rfl, hb⟩
  · exact .inl k
  · exact .inr ⟨b, cap, rest, rfl, hl.1 _ _ hb⟩
theorem Rd.put {h : AH} {x : AV} {xs : List Int} (k : Rd h x xs) {b : Nat} (hb : h.blk b = none) (cs : List AV) : Rd (h.put b cs) x xs := k.leB (AH.leB_put hb)
theorem Rd.sl (h : AH) (nl : Bool) (xs : List Int) (tl : Tail) : Rd h (.sl nl xs.length (i64s xs) tl) xs := .inl ⟨nl, tl, rfl⟩
section
variable {h : AH} {x : AV} {xs : List Int} {K : AV → Prop}
theorem rd_len (k : Rd h x xs) : LnA x (c := ⟨K⟩) = K (.int .i64 xs.length) := by
  rcases k with ⟨nl, tl, rfl⟩ | ⟨b, cap, rest, rfl, hb⟩ <;> rfl
theorem rd_ix (k : Rd h x xs) {kd : IntKind} {j : Int} : IxA 1 x (.int kd j) (c := ⟨K⟩) = (0 ≤ j ∧ j < xs.length ∧ K (adr x j.toNat)) := by
  rcases k with ⟨nl, tl, rfl⟩ | ⟨b, cap, rest, rfl, hb⟩
  · simp only [IxA, adr, Nat.mul_one]
  · simp only [IxA, adr, Nat.mul_one, Nat.zero_add]
theorem rd_ld (k : Rd h x xs) {j : Nat} (hj : j < xs.length) : LdA h none (adr x j) (c := ⟨K⟩) = K (.int .i64 (xs.getD j 0)) := by
  rcases k with ⟨nl, tl, rfl⟩ | ⟨b, cap, rest, rfl, hb⟩
  · simp only [adr, LdA, i64s_drop hj]
    simp [evLoad, AV.one]
  · have hd : (i64s xs ++ rest).drop (0 + j) = I (xs.getD j 0) :: ((i64s xs).drop (j + 1) ++ rest) := by
      rw [Nat.zero_add, List.drop_append_of_le_length (by rw [i64s_len]; omega), i64s_drop hj]; rfl
    simp only [adr, LdA, hb, hd, Option.some.injEq, exists_eq_left']
    simp [evLoad, AV.one]
end

/-- A list of numbers that grows and may be written. -/
def Gr (h0 : AH) (x : AV) (xs : List Int) (h : AH) : Prop := h0.le h ∧ ((xs = [] ∧ x = .sl true 0 [] .full) ∨ (xs ≠ [] ∧ ∃ b q, x = .msl b 0 xs.length (some q) ∧ xs.length ≤ q ∧ h.blk b = some (i64s xs ++ List.replicate (q - xs.length) .undef) ∧ h0.blk b = none))
theorem Gr.new (h : AH) : Gr h (.sl true 0 [] .full) [] h := ⟨AH.le.refl h, .inl ⟨rfl, rfl⟩⟩
theorem Gr.rd {h0 h : AH} {x : AV} {xs : List Int} (k : Gr h0 x xs h) : Rd h x xs := by
  rcases k with ⟨_, ⟨rfl, rfl⟩ | ⟨_, b, q, rfl, _, hb, _⟩⟩
  · exact .inl ⟨_, _, rfl⟩
  · exact .inr ⟨b, _, _, rfl, hb⟩
theorem Gr.step {h0 h : AH} {x : AV} {xs : List Int} (k : Gr h0 x xs h) (hl : xs.length ≤ 1000) {v : Int} {KS : AV → AH → Prop} (hk : ∀ x' h', Gr h0 x' (xs ++ [v]) h' → KS x' h') :
    AiS h 1 8 x (.sl false 1 [I v] .full) (c := ⟨KS⟩) := by
  rcases k with ⟨hle, ⟨rfl, rfl⟩ | ⟨hne, b, q, rfl, hq, hb, hn⟩⟩
  · rw [aiS_full, rg_sl]
    refine ⟨rfl, rfl, by omega, by omega, by omega, GrowG.mk fun b q hq hb => hk _ _ ⟨AH.le_put hle (AH.none_of_le hle hb), .inr ⟨by simp, b, q, rfl, hq, ?_, AH.none_of_le hle hb⟩⟩⟩
    rw [AH.blk_put]; simp [i64s]
  · rw [aiS_msl, rg_sl, hb, BlkG_some]
    have hlen : (i64s xs ++ List.replicate (q - xs.length) AV.undef).length = q := by rw [List.length_append, i64s_len, List.length_replicate]; omega
    refine ⟨rfl, by omega, by omega, by rw [hlen]; omega, fun h1 => ⟨by rw [hlen]; omega, hk _ _ ⟨AH.le_put hle hn, .inr ⟨by simp, b, q, by simp, by simpa using h1, ?_, hn⟩⟩⟩, fun h1 => GrowG.mk fun b' q' hq' hb' => hk _ _ ⟨AH.le_put hle (AH.none_of_le hle hb'), .inr ⟨by simp, b', q', by simp, by simpa using hq', ?_, AH.none_of_le hle hb'⟩⟩⟩
    · rw [AH.blk_put]
      congr 1
      rw [Nat.zero_add, Nat.mul_one, i64s_append, List.length_append, List.append_assoc]
      have : spl (i64s xs ++ List.replicate (q - xs.length) AV.undef) xs.length [I v] = i64s xs ++ (I v :: List.replicate (q - (xs.length + 1)) AV.undef) := by
        rw [spl_eq _ _ _ (by rw [hlen]; simp only [List.length_singleton]; omega)]
        have e1 : (i64s xs ++ List.replicate (q - xs.length) AV.undef).take xs.length = i64s xs := by
          rw [List.take_append_of_le_length (by rw [i64s_len]; exact Nat.le_refl _), List.take_of_length_le (by rw [i64s_len]; exact Nat.le_refl _)]
        have e2 : (i64s xs ++ List.replicate (q - xs.length) AV.undef).drop (xs.length + 1) = List.replicate (q - (xs.length + 1)) AV.undef := by
          rw [List.drop_append, List.drop_of_length_le (by rw [i64s_len]; omega), i64s_len, List.drop_replicate, List.nil_append]
          congr 1
          omega
        simp only [List.length_singleton, e1, e2]
        simp
      rw [this]
      simp [i64s]
    · rw [AH.blk_put]
      congr 1
      simp [i64s]

/-- One number is written. -/
def wr (h : AH) (x : AV) (j : Nat) (v : Int) : AH := match x with
  | .msl b _ _ _ => match h.blk b with
    | some cs => h.put b (cs.set j (I v))
    | none => h
  | _ => h
/-- Two lists that share nothing. -/
def dj (x y : AV) : Prop := ∀ b off n cap b' off' n' cap', x = .msl b off n cap → y = .msl b' off' n' cap' → b ≠ b'
theorem dj.symm {x y : AV} (h : dj x y) : dj y x := fun b o n c b' o' n' c' e e' hh => h b' o' n' c' b o n c e' e hh.symm
theorem Gr.wr {h0 h : AH} {x : AV} {xs : List Int} (k : Gr h0 x xs h) {j : Nat} (hj : j < xs.length) (v : Int) : Gr h0 x (xs.set j v) (Abs.wr h x j v) := by
  rcases k with ⟨hle, ⟨rfl, rfl⟩ | ⟨hne, b, q, rfl, hq, hb, hn⟩⟩
  · exact absurd hj (Nat.not_lt_zero _)
  · simp only [Abs.wr, hb]
    refine ⟨AH.le_put hle hn, .inr ⟨by simpa using hne, b, q, by simp, by simpa using hq, ?_, hn⟩⟩
    rw [AH.blk_put]
    congr 1
    rw [List.set_append_left _ _ (by rw [i64s_len]; exact hj)]
    simp [i64s, List.map_set]
theorem Gr.other {h0 h : AH} {x y : AV} {xs ys : List Int} (k : Gr h0 x xs h) (ky : Gr h0 y ys h) (hd : dj x y) {j : Nat} (v : Int) : Gr h0 y ys (Abs.wr h x j v) := by
  rcases k with ⟨hle, ⟨rfl, rfl⟩ | ⟨hne, b, q, rfl, hq, hb, hn⟩⟩
  · exact ky
  · simp only [Abs.wr, hb]
    rcases ky with ⟨_, ⟨rfl, rfl⟩ | ⟨hne', b', q', rfl, hq', hb', hn'⟩⟩
    · exact ⟨AH.le_put hle hn, .inl ⟨rfl, rfl⟩⟩
    · refine ⟨AH.le_put hle hn, .inr ⟨hne', b', q', rfl, hq', ?_, hn'⟩⟩
      rw [AH.blk_put_ne _ _ (fun hh => hd _ _ _ _ _ _ _ _ rfl rfl hh.symm)]
      exact hb'
/-- A new block does not matter. -/
theorem Gr.put {h0 h : AH} {x : AV} {xs : List Int} (k : Gr h0 x xs h) {b : Nat} (hb : h.blk b = none) (cs : List AV) : Gr h0 x xs (h.put b cs) := by
  rcases k with ⟨hle, k | ⟨hne, b', q, rfl, hq, hb', hn⟩⟩
  · exact ⟨AH.le_put hle (AH.none_of_le hle hb), .inl k⟩
  · refine ⟨AH.le_put hle (AH.none_of_le hle hb), .inr ⟨hne, b', q, rfl, hq, ?_, hn⟩⟩
    rw [AH.blk_put_ne _ _ (fun hh => by subst hh; rw [hb'] at hb; cases hb)]
    exact hb'
/-- A list that was made later. -/
theorem Gr.later {h0 h1 h : AH} {x y : AV} {xs ys : List Int} (k : Gr h0 x xs h1) (ky : Gr h1 y ys h) : Gr h0 x xs h ∧ Gr h0 y ys h ∧ dj x y := by
  have hle := ky.1
  have hle0 := k.1
  refine ⟨?_, ?_, ?_⟩
  · rcases k with ⟨hl, k | ⟨hne, b, q, rfl, hq, hb, hn⟩⟩
    · exact ⟨AH.le.trans hl hle, .inl k⟩
    · exact ⟨AH.le.trans hl hle, .inr ⟨hne, b, q, rfl, hq, hle.blk _ _ hb, hn⟩⟩
  · rcases ky with ⟨_, ky | ⟨hne, b, q, rfl, hq, hb, hn⟩⟩
    · exact ⟨AH.le.trans hle0 hle, .inl ky⟩
    · exact ⟨AH.le.trans hle0 hle, .inr ⟨hne, b, q, rfl, hq, hb, AH.none_of_le hle0 hn⟩⟩
  · rcases k with ⟨hl, ⟨_, rfl⟩ | ⟨hne, b, q, rfl, hq, hb, hn⟩⟩
    · intro _ _ _ _ _ _ _ _ e; cases e
    · rcases ky with ⟨_, ⟨_, rfl⟩ | ⟨hne', b', q', rfl, hq', hb', hn'⟩⟩
      · intro _ _ _ _ _ _ _ _ _ e; cases e
      · intro _ _ _ _ _ _ _ _ e e' hh
        cases e; cases e'; subst hh
        rw [hb] at hn'; cases hn'
/-- What was there before stays. -/
theorem Gr.old {h0 h : AH} {x : AV} {xs : List Int} (k : Gr h0 x xs h) {b : Nat} {cs : List AV} (hb : h0.blk b = some cs) : h.blk b = some cs := k.1.blk _ _ hb

theorem Gr.ret {h0 h : AH} {x : AV} {xs : List Int} (k : Gr h0 x xs h) : ∃ h', RGh x h (asl xs) h' ∧ h0.le h' ∧ ∀ y ys, Gr h0 y ys h → dj x y → Gr h0 y ys h' := by
  rcases k with ⟨hle, ⟨rfl, rfl⟩ | ⟨hne, b, q, rfl, hq, hb, hn⟩⟩
  · exact ⟨h, .forget AV.le.unk (AH.le.refl h), hle, fun y ys k _ => k⟩
  · have hd : h0.le (h.del b) := ⟨fun x c e => by
      show (if x = b then none else h.blk x) = _
      rw [if_neg (fun hh => by subst hh; rw [hn] at e; cases e)]
      exact hle.blk x c e, hle.tok, hle.mp⟩
    refine ⟨h.del b, ?_, hd, fun y ys k hj => ?_⟩
    · have := RGh.fix (n := xs.length) (cap := some q) hb 1
      have ht : (i64s xs ++ List.replicate (q - xs.length) AV.undef).take (xs.length * 1) = i64s xs := by
        rw [Nat.mul_one, List.take_append_of_le_length (by rw [i64s_len]; exact Nat.le_refl _), List.take_of_length_le (by rw [i64s_len]; exact Nat.le_refl _)]
      rw [ht] at this
      have e : asl xs = .sl false xs.length (i64s xs) .unk := by simp [asl, hne]
      rw [e]; exact this
    · rcases k with ⟨hl, ⟨rfl, rfl⟩ | ⟨hne', b', q', rfl, hq', hb', hn'⟩⟩
      · exact ⟨hd, .inl ⟨rfl, rfl⟩⟩
      · refine ⟨hd, .inr ⟨hne', b', q', rfl, hq', ?_, hn'⟩⟩
        show (if b' = b then none else h.blk b') = _
        rw [if_neg (fun hh => hj _ _ _ _ _ _ _ _ rfl rfl hh.symm)]
        exact hb'
end Go.Abs
namespace Go.Abs
open Go
set_option linter.unusedSimpArgs false
set_option linter.unusedVariables false

theorem AH.le_setTok2 {h h' : AH} {t n size : Nat} (hl : h.le h') : (h.setTok t n size).le (h'.setTok t n size) :=
  ⟨hl.blk, fun x m e => by
    simp only [AH.setTok] at e ⊢
    split at e
    · rename_i hx; rw [if_pos hx]; exact e
    · rename_i hx; rw [if_neg hx]; exact hl.tok x m e, hl.mp⟩
theorem take_getD {α : Type} (d : α) {l : List α} {i : Nat} (h : i < l.length) : l.take (i + 1) = l.take i ++ [l.getD i d] := by
  rw [List.take_add_one]
  simp [h]
theorem take_map_succ {α β : Type} (f : α → β) (d : α) {l : List α} {i : Nat} (h : i < l.length) : (l.take (i + 1)).map f = (l.take i).map f ++ [f (l.getD i d)] := by
  rw [take_getD d h, List.map_append]
  rfl
theorem gl_pos {cs : List AV} {n : Nat} {tl : Tail} (h : 0 < n) : gl cs n tl = .sl false n cs tl := by
  unfold gl
  rw [decide_eq_false (by omega)]
/-! ### Values that say less -/
inductive CLe : List AV → List AV → Prop where
  | nil : CLe [] []
  | cons {x y : AV} {xs ys : List AV} (h : AV.le x y) (k : CLe xs ys) : CLe (x :: xs) (y :: ys)
theorem CLe.rels {xs ys : List AV} (h : CLe xs ys) : ∀ {s : Sg} {vs : List Value}, VRels s ys vs → VRels s xs vs := by
  induction h with
  | nil => intro s vs hv; exact hv
  | cons h k ih =>
    intro s vs hv
    cases vs with
    | nil => simp [VRels] at hv
    | cons v vs => exact .cons (h s v (hv.2 0 _ v rfl rfl)) (ih ⟨by simpa using hv.1, fun j x u hx hu => hv.2 (j + 1) x u (by simpa using hx) (by simpa using hu)⟩)
theorem CLe.refl : ∀ (xs : List AV), CLe xs xs
  | [] => .nil
  | x :: xs => .cons (AV.le.refl x) (CLe.refl xs)
theorem AV.le.tupC {xs ys : List AV} (h : CLe xs ys) : AV.le (.tup xs) (.tup ys) := fun s v hv => by
  obtain ⟨vs, rfl, hr⟩ := hv.tup_inv
  have := h.rels (s := s) (vs := vs) hr
  exact .tup _ _ this.1 this.2
theorem AV.le.stC {xs ys : List AV} (h : CLe xs ys) : AV.le (.st xs) (.st ys) := fun s v hv => by
  obtain ⟨vs, rfl, hr⟩ := hv.st_inv
  have := h.rels hr
  exact .st _ _ this.1 this.2
theorem AV.le.glU {cs : List AV} {n : Nat} {tl : Tail} : AV.le (gl cs n .unk) (gl cs n tl) := AV.le.unk

/-! ### A step ahead of a call -/
def CStep (args : List AV) (h : AH) (args' : List AV) (h' : AH) : Prop :=
  ∀ (s : Sg) (w0 : World) (own : Nat → Prop) (w : World) (vs : List Value), HSim s h w0 own w → VRels s args vs → ∃ s', s.le s' ∧ HSim s' h' w0 own w ∧ VRels s' args' vs
theorem ACalls.step {P : Program} {f : FuncId} {args args' : List AV} {h h2 : AH} {R : AV → AH → Prop} (hst : CStep args h args' h2) (hcall : ACalls P f args' h2 R) : ACalls P f args h R := by
  obtain ⟨hok, hc⟩ := hcall
  refine ⟨hok, fun s0 vs w hv0 hs0 => ?_⟩
  obtain ⟨s, hle0, k, hv⟩ := hst s0 w (ownOf s0 h) w vs hs0 hv0
  have h0 : HSim s h2 w (ownOf s h2) w := by
    exact {
      fx := k.fx
      blk := fun b cells eb => by
        obtain ⟨c, vs, t, a1, a2, a3, a4, a5, a6⟩ := k.blk b cells eb
        exact ⟨c, vs, t, a1, a2, a3, a4, a5, .inr (.inl ⟨b, by rw [eb]; simp, a1⟩)⟩
      inj := k.inj
      tok := fun t n et => by
        obtain ⟨i, a1, a2, a2', a3⟩ := k.tok t n et
        exact ⟨i, a1, a2, a2', a3.imp id fun ⟨b1, ws, ty, b2, b3, b4, b5⟩ => ⟨b1, ws, ty, b2, b3, b4, .inr (.inr (.inl ⟨t, n, i, et, a1, b1, rfl⟩))⟩⟩
      tokinj := k.tokinj
      tokblk := k.tokblk
      nb := k.nb
      nt := k.nt
      mp := fun b es eb => by
        obtain ⟨c, mes, ck, a1, a2, a3, a4, a5, a6⟩ := k.mp b es eb
        exact ⟨c, mes, ck, a1, a2, a3, a4, a5, .inr (.inr (.inr ⟨b, by rw [eb]; simp, a1⟩))⟩
      minj := k.minj
      nm := k.nm
      frame := fun _ _ _ => rfl
      size := Nat.le_refl _
      os := rfl
      tape := rfl
      output := rfl }
  refine (hc s vs w hv h0).mono ?_
  rintro en w' ⟨s', r, v, h', hle, hh, rfl, hr, hR⟩
  refine ⟨s', r, v, h', hle0.trans hle, ?_, rfl, hr, hR⟩
  have hown : ∀ c, ownOf s h2 c → w.heap.size ≤ c ∨ ownOf s0 h c := by
    intro c hoc
    rcases hoc with ⟨b, hb, hsb⟩ | ⟨t, n, i, ht, hi, hlt, rfl⟩ | ⟨b, hb, hsb⟩
    · cases hcs : h2.blk b with
      | none => exact absurd hcs hb
      | some cs =>
        obtain ⟨c', vs, ty, a1, a2, a3, a4, a5, a6⟩ := k.blk b cs hcs
        rw [hsb] at a1; cases a1; exact a6
    · obtain ⟨i', a1, a2, _, a3⟩ := k.tok t n ht
      rw [hi] at a1; cases a1
      rcases a3 with a3 | ⟨_, ws, ty, b2, b3, b4, b5⟩
      · omega
      · exact b5
    · cases hcs : h2.mp b with
      | none => exact absurd hcs hb
      | some es =>
        obtain ⟨c', mes, ck, a1, a2, a3, a4, a5, a6⟩ := k.mp b es hcs
        rw [hsb] at a1; cases a1; exact a6
  have hlow : ∀ c, (w.heap.size ≤ c ∨ ownOf s h2 c) → (w.heap.size ≤ c ∨ ownOf s0 h c) := by
    intro c hc
    rcases hc with hc | hc
    · exact .inl hc
    · exact hown c hc
  exact {
    fx := hh.fx
    blk := fun b cells eb => by
      obtain ⟨c, vs, t, a1, a2, a3, a4, a5, a6⟩ := hh.blk b cells eb
      exact ⟨c, vs, t, a1, a2, a3, a4, a5, hlow c a6⟩
    inj := hh.inj
    tok := fun t n et => by
      obtain ⟨i, a1, a2, a2', a3⟩ := hh.tok t n et
      exact ⟨i, a1, a2, a2', a3.imp id fun ⟨b1, ws, ty, b2, b3, b4, b5⟩ => ⟨b1, ws, ty, b2, b3, b4, hlow _ b5⟩⟩
    tokinj := hh.tokinj
    tokblk := hh.tokblk
    nb := hh.nb
    nt := hh.nt
    mp := fun b es eb => by
      obtain ⟨c, mes, ck, a1, a2, a3, a4, a5, a6⟩ := hh.mp b es eb
      exact ⟨c, mes, ck, a1, a2, a3, a4, a5, hlow c a6⟩
    minj := hh.minj
    nm := hh.nm
    frame := fun j hj ho => by
      rw [hh.frame j hj (fun hc => by
        rcases hown j hc with h1 | h1
        · omega
        · exact ho h1)]
    size := hh.size
    os := hh.os
    tape := hh.tape
    output := hh.output }
theorem CStep.le {args args' : List AV} {h : AH} (hl : CLe args' args) : CStep args h args' h := fun s w0 own w vs k kv => ⟨s, Sg.le.refl s, k, hl.rels kv⟩
theorem RCall.le {P : Program} {f : FuncId} {args args' : List AV} {h : AH} {v : AV} (hl : CLe args' args) (hc : RCall P f args' h v) : RCall P f args h v := fun h' hh => ACalls.step (CStep.le hl) (hc h' hh)

/-- A slice that may be written becomes fixed. -/
theorem VRel.fixed {s s' : Sg} {b c n : Nat} {cap : Option Nat} {cs : List AV} {vs : List Value} {v : Value} (h : VRel s (.msl b 0 n cap) v) (hl : s.le s') (hc : s.blk b = some c) (hr : VRels s' cs vs) (hf : ∀ (j : Nat) (v : Value), vs[j]? = some v → s'.fx c j = some v) (size : Nat) :
    VRel s' (.sl false n (cs.take (n * size)) .unk) v := by
  obtain ⟨c2, kk, ev, hc2, hnk, hmax, hq⟩ := h.msl_inv
  have hcc : c2 = c := by rw [hc2] at hc; exact Option.some.inj hc
  subst hcc
  have hrt := hr.take (n * size)
  rw [ev]
  exact .sl false n _ .unk (some ⟨c2, 0, none⟩) kk (vs.take (n * size)) hrt.1 hrt.2 (fun j v hv => ⟨_, rfl, rfl, by
    rw [List.getElem?_take] at hv
    split at hv
    · simpa using hf j v hv
    · cases hv⟩) rfl (by simp) (by simp) hnk hmax trivial
theorem AH.del_put {h : AH} {b : Nat} {cs : List AV} (hb : h.blk b = none) : (h.put b cs).del b = h := by
  simp only [AH.put, AH.del]
  congr 1
  funext y
  split
  · rename_i hy; subst hy; exact hb.symm
  · rfl

/-! ### A growing list within a block -/
theorem awp_tokB {P : Program} {g : Cfg} {Q : Exit → Env → AH → Prop} {e : Env} {h : AH} {c : C} (b j size : Nat) {cells : List AV} {nl : Bool} {n : Nat} {cs : List AV} (hb : h.blk b = some cells) (hj : cells[j]? = some (.sl nl n cs .full))
    (hk : ∀ t, h.tok t = none → AWP P g c Q e ((h.put b (cells.set j (.sl nl n cs (.tok t)))).setTok t n size)) : AWP P g c Q e h := by
  intro code hc s w0 own a w hs
  obtain ⟨s', b1, b2, b3, b4⟩ := hs.heap.fullTok n size
  have hne : ∀ c, ((h.setTok s.nt n size).put b (cells.set j (.sl nl n cs (.tok s.nt)))).blk c ≠ none → (h.setTok s.nt n size).blk c ≠ none := by
    intro c hc hn
    apply hc
    by_cases hcb : c = b
    · subst hcb; rw [AH.blk_setTok, hb] at hn; cases hn
    · rw [AH.blk_put_ne _ _ hcb]; exact hn
  have hsim : HSim s' ((h.setTok s.nt n size).put b (cells.set j (.sl nl n cs (.tok s.nt)))) w0 own w := {
    fx := b2.fx
    blk := fun c cls ec => by
      by_cases hcb : c = b
      · subst hcb
        rw [AH.blk_put] at ec
        cases ec
        obtain ⟨c', vs, t, a1, a2, a3, a4, a5, a6⟩ := b2.blk c cells hb
        refine ⟨c', vs, t, a1, a2, by rw [List.length_set]; exact a3, fun i x hx => ?_, a5, a6⟩
        rw [List.getElem?_set] at hx
        split at hx
        · rename_i hji
          subst hji
          split at hx
          · cases hx
            obtain ⟨v, c1, c2, hr⟩ := a4 j _ hj
            refine ⟨v, c1, c2, ?_⟩
            obtain ⟨A, cap, ws, ev, hr2, hfx, hnil, hnone, hspot, hcap, hmax, htl⟩ := hr.sl_inv
            have hcn : cap = n := htl
            rw [ev]
            exact .sl nl n cs (.tok s.nt) A cap ws hr2.1 hr2.2 hfx hnil hnone hspot hcap hmax
              ⟨_, b3, Nat.le_refl _, fun _ => ⟨hcn, fun hh => absurd hh (Nat.lt_irrefl _)⟩⟩
          · cases hx
        · exact a4 i x hx
      · rw [AH.blk_put_ne _ _ hcb] at ec; exact b2.blk c cls ec
    inj := fun c c' g e e' => b2.inj c c' g (hne c e) (hne c' e')
    tok := b2.tok
    tokinj := b2.tokinj
    tokblk := fun t n i c e e1 e2 e3 => b2.tokblk t n i c e e1 e2 (hne c e3)
    nb := b2.nb
    nt := b2.nt
    mp := b2.mp
    minj := b2.minj
    nm := b2.nm
    frame := b2.frame
    size := b2.size
    os := b2.os
    tape := b2.tape
    output := b2.output }
  rw [← AH.put_setTok] at hsim
  exact wp_mono (hk s.nt b4 code hc s' w0 own a w ⟨hsim, hs.defers, hs.size, fun u => (hs.rel u).mono b1⟩) fun _ _ _ ⟨s'', e'', h'', m1, m2, m3⟩ => ⟨s'', e'', h'', b1.trans m1, m2, m3⟩

/-! ### Rows -/
theorem flat_drop {α : Type} {f : α → List AV} {n : Nat} (hf : ∀ x, (f x).length = n) (d : α) : ∀ {l : List α} {i : Nat}, i < l.length → (l.flatMap f).drop (i * n) = f (l.getD i d) ++ (l.flatMap f).drop ((i + 1) * n) := by
  intro l
  induction l with
  | nil => intro i h; simp at h
  | cons x l ih =>
    intro i h
    rw [List.flatMap_cons]
    cases i with
    | zero =>
      have : (f x ++ l.flatMap f).drop ((0 + 1) * n) = l.flatMap f := by
        rw [List.drop_append, List.drop_of_length_le (by rw [hf]; omega), hf]; simp
      rw [this]; simp
    | succ i =>
      have key : ∀ k, (f x ++ l.flatMap f).drop ((k + 1) * n) = (l.flatMap f).drop (k * n) := fun k => by
        rw [List.drop_append, List.drop_of_length_le (by rw [hf, Nat.add_mul]; omega), hf, Nat.add_mul, Nat.one_mul, Nat.add_sub_cancel, List.nil_append]
      rw [key, key, ih (by simpa using h)]
      simp
end Go.Abs
namespace Go.Abs
open Go
set_option linter.unusedSimpArgs false
set_option linter.unusedVariables false

/-- The entries of a map that has some numbers. -/
def keys (l : List Int) : List (AV × AV) := l.map fun k => (AV.int .i64 k, AV.bool true)
theorem find_keys (k : Int) : ∀ l : List Int, findAV none (.int .i64 k) (keys l) = some (if k ∈ l then some (.bool true) else none) := by
  intro l
  induction l with
  | nil => simp [keys, findAV, keyOK]
  | cons x l ih =>
    have e : keys (x :: l) = (AV.int .i64 x, AV.bool true) :: keys l := rfl
    rw [e, findAV]
    simp only [keyEq, and_self, if_true]
    by_cases h : k = x
    · simp [h]
    · have hd : decide (k = x) = false := decide_eq_false h
      rw [hd]
      simp only [ih, List.mem_cons, h, false_or]
theorem upd_keys {k : Int} : ∀ {l : List Int}, k ∉ l → updAV none (.int .i64 k) (.bool true) (keys l) = some (keys (l ++ [k])) := by
  intro l
  induction l with
  | nil => intro _; simp [keys, updAV, keyOK]
  | cons x l ih =>
    intro h
    have h1 : ¬ k = x := fun hh => h (by simp [hh])
    have h2 : k ∉ l := fun hh => h (by simp [hh])
    have e : keys (x :: l) = (AV.int .i64 x, AV.bool true) :: keys l := rfl
    rw [e, updAV]
    simp only [keyEq, and_self, if_true, decide_eq_false h1, ih h2]
    rfl
theorem upd_keys_in {k : Int} : ∀ {l : List Int}, k ∈ l → updAV none (.int .i64 k) (.bool true) (keys l) = some (keys l) := by
  intro l
  induction l with
  | nil => intro h; simp at h
  | cons x l ih =>
    intro h
    have e : keys (x :: l) = (AV.int .i64 x, AV.bool true) :: keys l := rfl
    rw [e, updAV]
    simp only [keyEq, and_self, if_true]
    by_cases hx : k = x
    · subst hx; simp
    · have h2 : k ∈ l := by simpa [hx] using h
      simp only [decide_eq_false hx, ih h2]
      rfl
end Go.Abs
namespace Go.Proofs.YtidmekdkfiljjaaGreat.P
open Go Go.Abs
set_option linter.unusedSimpArgs false
set_option linter.unusedVariables false
set_option maxRecDepth 20000
theorem hm : Tryz.prog.follows .mixedOrders = true := by kernel_rfl

/-- A specimen. -/
structure Spm where
  id : Int
  obv : Int
  rev : Int
  os : Int
  rs : Int
  ax : Int
  wt : Int
def Spm.cs (x : Spm) : List AV := [I x.id, I x.obv, I x.rev, I x.os, I x.rs, I x.ax, I x.wt]
def dS : Spm := ⟨0, 0, 0, 0, 0, 0, 0⟩
def sms (e : List Spm) : List AV := e.flatMap Spm.cs
theorem sms_drop {e : List Spm} {i : Nat} (h : i < e.length) : (sms e).drop (i * 7) = I (e.getD i dS).id :: I (e.getD i dS).obv :: I (e.getD i dS).rev :: I (e.getD i dS).os :: I (e.getD i dS).rs :: I (e.getD i dS).ax :: I (e.getD i dS).wt :: (sms e).drop ((i + 1) * 7) := flat_drop (f := Spm.cs) (fun _ => rfl) dS h
abbrev stS (x : Spm) : AV := .st x.cs

theorem getD_gext {α : Type} (d : α) {xs ys : List α} (h : xs.length = ys.length) (k : ∀ j, j < xs.length → xs.getD j d = ys.getD j d) : xs = ys :=
  List.ext_getElem h fun j h1 h2 => by have := k j h1; simpa [List.getD, h1, h2] using this
theorem r_specimen_in (a l u : Int) (h : AH) : RCall Tryz.prog n_specimen_in [I a, I l, I u] h (.bool (decide (l ≤ a ∧ a ≤ u))) := by
  refine RCall.of hm cF_specimen_in (by simp [g_specimen_in]) fun hw h' hl => ?_
  simp only [F_specimen_in, g_specimen_in, go_sem, ↓tq_n, ↓tq_e, ↓tq_r, ↓bq_n, ↓bq_e, ↓bq_r, ↓rq_n, ↓rq_r, ↓rq_e]
  refine ⟨fun h1 => ?_, fun h1 => ?_⟩
  all_goals exact ret_ok (by simp [h1])
/-- A valid specimen. -/
def spOK (x : Spm) : Prop := (1 ≤ x.obv ∧ x.obv ≤ 999) ∧ (1 ≤ x.rev ∧ x.rev ≤ 999) ∧ (1 ≤ x.os ∧ x.os ≤ 9) ∧ (1 ≤ x.rs ∧ x.rs ≤ 9) ∧ (1 ≤ x.id ∧ x.id ≤ 9999) ∧ (0 ≤ x.ax ∧ x.ax ≤ 11) ∧ (1 ≤ x.wt ∧ x.wt ≤ 200000)
instance (x : Spm) : Decidable (spOK x) := by unfold spOK; infer_instance
theorem r_specimen_Valid (x : Spm) (h : AH) : RCall Tryz.prog n_specimen_Valid [stS x] h (.bool (decide (spOK x))) := by
  obtain ⟨id, obv, rev, os, rs, ax, wt⟩ := x
  refine RCall.of hm cF_specimen_Valid (by simp [g_specimen_Valid]) fun hw h' hl => ?_
  have no : ∀ p : Prop, (spOK ⟨id, obv, rev, os, rs, ax, wt⟩ → p) → ¬ p → decide (spOK ⟨id, obv, rev, os, rs, ax, wt⟩) = false := fun p hp hn => decide_eq_false fun h => hn (hp h)
  simp only [stS, Spm.cs, F_specimen_Valid, g_specimen_Valid, go_sem, ↓tq_n, ↓tq_e, ↓tq_r, ↓bq_n, ↓bq_e, ↓bq_r, ↓rq_n, ↓rq_r, ↓rq_e]
  refine CallG.mk (r_specimen_in _ _ _ _) ?_
  by_cases c1 : 1 ≤ obv ∧ obv ≤ 999
  case neg => rw [decide_eq_false c1]; simp only [F_specimen_Valid, g_specimen_Valid, go_sem, ↓tq_n, ↓tq_e, ↓tq_r, ↓bq_n, ↓bq_e, ↓bq_r, ↓rq_n, ↓rq_r, ↓rq_e]; exact ret_ok (by rw [no _ (fun h => h.1) c1])
  rw [decide_eq_true c1]
  simp only [F_specimen_Valid, g_specimen_Valid, go_sem, ↓tq_n, ↓tq_e, ↓tq_r, ↓bq_n, ↓bq_e, ↓bq_r, ↓rq_n, ↓rq_r, ↓rq_e]
  refine CallG.mk (r_specimen_in _ _ _ _) ?_
  by_cases c2 : 1 ≤ rev ∧ rev ≤ 999
  case neg => rw [decide_eq_false c2]; simp only [F_specimen_Valid, g_specimen_Valid, go_sem, ↓tq_n, ↓tq_e, ↓tq_r, ↓bq_n, ↓bq_e, ↓bq_r, ↓rq_n, ↓rq_r, ↓rq_e]; exact ret_ok (by rw [no _ (fun h => h.2.1) c2])
  rw [decide_eq_true c2]
  simp only [F_specimen_Valid, g_specimen_Valid, go_sem, ↓tq_n, ↓tq_e, ↓tq_r, ↓bq_n, ↓bq_e, ↓bq_r, ↓rq_n, ↓rq_r, ↓rq_e]
  refine CallG.mk (r_specimen_in _ _ _ _) ?_
  by_cases c3 : 1 ≤ os ∧ os ≤ 9
  case neg => rw [decide_eq_false c3]; simp only [F_specimen_Valid, g_specimen_Valid, go_sem, ↓tq_n, ↓tq_e, ↓tq_r, ↓bq_n, ↓bq_e, ↓bq_r, ↓rq_n, ↓rq_r, ↓rq_e]; exact ret_ok (by rw [no _ (fun h => h.2.2.1) c3])
  rw [decide_eq_true c3]
  simp only [F_specimen_Valid, g_specimen_Valid, go_sem, ↓tq_n, ↓tq_e, ↓tq_r, ↓bq_n, ↓bq_e, ↓bq_r, ↓rq_n, ↓rq_r, ↓rq_e]
  refine CallG.mk (r_specimen_in _ _ _ _) ?_
  by_cases c4 : 1 ≤ rs ∧ rs ≤ 9
  case neg => rw [decide_eq_false c4]; simp only [F_specimen_Valid, g_specimen_Valid, go_sem, ↓tq_n, ↓tq_e, ↓tq_r, ↓bq_n, ↓bq_e, ↓bq_r, ↓rq_n, ↓rq_r, ↓rq_e]; exact ret_ok (by rw [no _ (fun h => h.2.2.2.1) c4])
  rw [decide_eq_true c4]
  simp only [F_specimen_Valid, g_specimen_Valid, go_sem, ↓tq_n, ↓tq_e, ↓tq_r, ↓bq_n, ↓bq_e, ↓bq_r, ↓rq_n, ↓rq_r, ↓rq_e]
  refine CallG.mk (r_specimen_in _ _ _ _) ?_
  by_cases c5 : 1 ≤ id ∧ id ≤ 9999
  case neg => rw [decide_eq_false c5]; simp only [F_specimen_Valid, g_specimen_Valid, go_sem, ↓tq_n, ↓tq_e, ↓tq_r, ↓bq_n, ↓bq_e, ↓bq_r, ↓rq_n, ↓rq_r, ↓rq_e]; exact ret_ok (by rw [no _ (fun h => h.2.2.2.2.1) c5])
  rw [decide_eq_true c5]
  simp only [F_specimen_Valid, g_specimen_Valid, go_sem, ↓tq_n, ↓tq_e, ↓tq_r, ↓bq_n, ↓bq_e, ↓bq_r, ↓rq_n, ↓rq_r, ↓rq_e]
  refine CallG.mk (r_specimen_in _ _ _ _) ?_
  by_cases c6 : 0 ≤ ax ∧ ax ≤ 11
  case neg => rw [decide_eq_false c6]; simp only [F_specimen_Valid, g_specimen_Valid, go_sem, ↓tq_n, ↓tq_e, ↓tq_r, ↓bq_n, ↓bq_e, ↓bq_r, ↓rq_n, ↓rq_r, ↓rq_e]; exact ret_ok (by rw [no _ (fun h => h.2.2.2.2.2.1) c6])
  rw [decide_eq_true c6]
  simp only [F_specimen_Valid, g_specimen_Valid, go_sem, ↓tq_n, ↓tq_e, ↓tq_r, ↓bq_n, ↓bq_e, ↓bq_r, ↓rq_n, ↓rq_r, ↓rq_e]
  refine CallG.mk (r_specimen_in _ _ _ _) ?_
  by_cases c7 : 1 ≤ wt ∧ wt ≤ 200000
  case neg => rw [decide_eq_false c7]; simp only [F_specimen_Valid, g_specimen_Valid, go_sem, ↓tq_n, ↓tq_e, ↓tq_r, ↓bq_n, ↓bq_e, ↓bq_r, ↓rq_n, ↓rq_r, ↓rq_e]; exact ret_ok (by rw [no _ (fun h => h.2.2.2.2.2.2) c7])
  rw [decide_eq_true c7]
  simp only [F_specimen_Valid, g_specimen_Valid, go_sem, ↓tq_n, ↓tq_e, ↓tq_r, ↓bq_n, ↓bq_e, ↓bq_r, ↓rq_n, ↓rq_r, ↓rq_e]
  exact ret_ok (by rw [decide_eq_true (show spOK ⟨id, obv, rev, os, rs, ax, wt⟩ from ⟨c1, c2, c3, c4, c5, c6, c7⟩)])
/-! The check of a list. -/
def allOK (l : List Spm) : Prop := ∀ i, i < l.length → spOK (l.getD i dS)
instance (l : List Spm) : Decidable (allOK l) := by unfold allOK; infer_instance
/-- No Id before i stands twice. -/
def uniqK (l : List Spm) (i : Nat) : Prop := ∀ j, j < i → ∀ k, k < j → (l.getD j dS).id ≠ (l.getD k dS).id
instance (l : List Spm) (i : Nat) : Decidable (uniqK l i) := by unfold uniqK; infer_instance
def ckE (l : List Spm) : Int := if 64 < l.length then 6 else if allOK l then (if uniqK l l.length then 0 else 8) else 1
def idsK (l : List Spm) : Nat → List Int
  | 0 => []
  | i + 1 => if (l.getD i dS).id ∈ idsK l i then idsK l i else idsK l i ++ [(l.getD i dS).id]
theorem mem_idsK {l : List Spm} : ∀ {i : Nat} {x : Int}, x ∈ idsK l i ↔ ∃ k, k < i ∧ (l.getD k dS).id = x := by
  intro i
  induction i with
  | zero => intro x; simp [idsK]
  | succ i ih =>
    intro x
    unfold idsK
    split
    · rename_i hin
      rw [ih]
      constructor
      · rintro ⟨k, h1, h2⟩; exact ⟨k, by omega, h2⟩
      · rintro ⟨k, h1, h2⟩
        rcases lt_succ_cases h1 with h3 | rfl
        · exact ⟨k, h3, h2⟩
        · rw [← h2]; exact ih.1 hin
    · rw [List.mem_append, List.mem_singleton, ih]
      constructor
      · rintro (⟨k, h1, h2⟩ | rfl)
        · exact ⟨k, by omega, h2⟩
        · exact ⟨i, by omega, rfl⟩
      · rintro ⟨k, h1, h2⟩
        rcases lt_succ_cases h1 with h3 | rfl
        · exact .inl ⟨k, h3, h2⟩
        · exact .inr h2.symm
theorem uniq_succ {l : List Spm} {i : Nat} : uniqK l (i + 1) ↔ uniqK l i ∧ (l.getD i dS).id ∉ idsK l i := by
  rw [mem_idsK]
  constructor
  · intro h
    exact ⟨fun j hj => h j (by omega), fun ⟨k, h1, h2⟩ => h i (by omega) k h1 h2.symm⟩
  · rintro ⟨h1, h2⟩ j hj k hk hh
    rcases lt_succ_cases hj with h3 | rfl
    · exact h1 j h3 k hk hh
    · exact h2 ⟨k, hk, hh.symm⟩
theorem r_specimen_Check (nl : Bool) (l : List Spm) (tl : Tail) (h : AH) : RCall Tryz.prog n_specimen_Check [.sl nl l.length (sms l) tl] h (I (ckE l)) := by
  refine RCall.of hm cF_specimen_Check (by simp [g_specimen_Check]) fun hw h' hl => ?_
  by_cases c1 : 64 < l.length
  · have c1' : (64 : Int) < (l.length : Int) := by omega
    simp only [c1', F_specimen_Check, g_specimen_Check, go_sem, ↓tq_n, ↓tq_e, ↓tq_r, ↓bq_n, ↓bq_e, ↓bq_r, ↓rq_n, ↓rq_r, ↓rq_e]
    exact ret_ok (by simp [ckE, c1])
  have c1' : ¬ (64 : Int) < (l.length : Int) := by omega
  simp only [c1', F_specimen_Check, g_specimen_Check, go_sem, ↓tq_n, ↓tq_e, ↓tq_r, ↓bq_n, ↓bq_e, ↓bq_r, ↓rq_n, ↓rq_r, ↓rq_e]
  refine NewMG.mk fun b hb => ?_
  simp only [F_specimen_Check, g_specimen_Check, go_sem, ↓tq_n, ↓tq_e, ↓tq_r, ↓bq_n, ↓bq_e, ↓bq_r, ↓rq_n, ↓rq_r, ↓rq_e]
  refine awp_loop (α := Nat × Bool) (fun y => [(3, .map b), (4, .bool y.2), (11, .sl nl l.length (sms l) tl), (12, I l.length), (13, I y.1)]) (fun y => h'.putM b (keys (idsK l y.1))) (fun y => y.1 ≤ l.length ∧ (∀ j, j < y.1 → spOK (l.getD j dS)) ∧ (y.2 = true ↔ ¬ uniqK l y.1)) (fun y => l.length - y.1) (0, false) ⟨Nat.zero_le _, fun j hj => absurd hj (Nat.not_lt_zero _), fun hh => (by cases hh), fun hh => absurd (fun j hj => absurd hj (Nat.not_lt_zero _)) hh⟩ (GStep.forget (by repeat' first | exact EnvLe.nil _ | refine EnvLe.cons (AV.le.of_eq rfl) ?_ | refine EnvLe.cons (AV.le.undef _) ?_ | refine EnvLe.cons AV.le.unk ?_) (by repeat' first | exact AH.le.refl _ | assumption | (refine AH.le_put ?_ (by first | assumption | exact (AH.blk_put_ne _ _ (by assumption)).trans (by assumption) | exact AH.none_put (by assumption) | exact AH.none_put (AH.none_put (by assumption)) | (simp only [AH.blk_setTok, AH.tok_put] at *; first | assumption | exact AH.none_put (by assumption)))) | (refine AH.le_setTok ?_ (by first | assumption | exact (AH.blk_put_ne _ _ (by assumption)).trans (by assumption) | exact AH.none_put (by assumption) | exact AH.none_put (AH.none_put (by assumption)) | (simp only [AH.blk_setTok, AH.tok_put] at *; first | assumption | exact AH.none_put (by assumption)))) | (refine AH.le_putM ?_ (by first | assumption | exact (AH.mp_putM_ne _ _ (by assumption)).trans (by assumption) | (simp only [AH.mp_put, AH.mp_setTok] at *; assumption))))) fun y hy => .of_vg hm ?_
  obtain ⟨i, bb⟩ := y
  obtain ⟨h1, h2, h3⟩ := hy
  simp only at h1 h2 h3 ⊢
  by_cases h4 : i < l.length
  case neg =>
    have h4 : i = l.length := by omega
    subst h4
    have hall : allOK l := h2
    cases bb with
    | true =>
      simp only [F_specimen_Check, g_specimen_Check, go_sem, ↓tq_n, ↓tq_e, ↓tq_r, ↓bq_n, ↓bq_e, ↓bq_r, ↓rq_n, ↓rq_r, ↓rq_e]
      exact ret_hb (by repeat' first | exact AH.le.refl _ | assumption | (refine AH.le_put ?_ (by first | assumption | exact (AH.blk_put_ne _ _ (by assumption)).trans (by assumption) | exact AH.none_put (by assumption) | exact AH.none_put (AH.none_put (by assumption)) | (simp only [AH.blk_setTok, AH.tok_put] at *; first | assumption | exact AH.none_put (by assumption)))) | (refine AH.le_setTok ?_ (by first | assumption | exact (AH.blk_put_ne _ _ (by assumption)).trans (by assumption) | exact AH.none_put (by assumption) | exact AH.none_put (AH.none_put (by assumption)) | (simp only [AH.blk_setTok, AH.tok_put] at *; first | assumption | exact AH.none_put (by assumption)))) | (refine AH.le_putM ?_ (by first | assumption | exact (AH.mp_putM_ne _ _ (by assumption)).trans (by assumption) | (simp only [AH.mp_put, AH.mp_setTok] at *; assumption)))) (by unfold ckE; rw [if_neg c1, if_pos hall, if_neg (h3.1 rfl)])
    | false =>
      have hu : uniqK l l.length := Classical.byContradiction fun hn => by have := h3.2 hn; cases this
      simp only [F_specimen_Check, g_specimen_Check, go_sem, ↓tq_n, ↓tq_e, ↓tq_r, ↓bq_n, ↓bq_e, ↓bq_r, ↓rq_n, ↓rq_r, ↓rq_e]
      exact ret_hb (by repeat' first | exact AH.le.refl _ | assumption | (refine AH.le_put ?_ (by first | assumption | exact (AH.blk_put_ne _ _ (by assumption)).trans (by assumption) | exact AH.none_put (by assumption) | exact AH.none_put (AH.none_put (by assumption)) | (simp only [AH.blk_setTok, AH.tok_put] at *; first | assumption | exact AH.none_put (by assumption)))) | (refine AH.le_setTok ?_ (by first | assumption | exact (AH.blk_put_ne _ _ (by assumption)).trans (by assumption) | exact AH.none_put (by assumption) | exact AH.none_put (AH.none_put (by assumption)) | (simp only [AH.blk_setTok, AH.tok_put] at *; first | assumption | exact AH.none_put (by assumption)))) | (refine AH.le_putM ?_ (by first | assumption | exact (AH.mp_putM_ne _ _ (by assumption)).trans (by assumption) | (simp only [AH.mp_put, AH.mp_setTok] at *; assumption)))) (by unfold ckE; rw [if_neg c1, if_pos hall, if_pos hu])
  have hc : (i : Int) < (l.length : Int) := by omega
  simp only [hc, sms_drop h4, F_specimen_Check, g_specimen_Check, go_sem, ↓tq_n, ↓tq_e, ↓tq_r, ↓bq_n, ↓bq_e, ↓bq_r, ↓rq_n, ↓rq_r, ↓rq_e]
  refine CallG.mk (r_specimen_Valid (l.getD i dS) _) ?_
  by_cases h5 : spOK (l.getD i dS)
  case neg =>
    rw [decide_eq_false h5]
    simp only [F_specimen_Check, g_specimen_Check, go_sem, ↓tq_n, ↓tq_e, ↓tq_r, ↓bq_n, ↓bq_e, ↓bq_r, ↓rq_n, ↓rq_r, ↓rq_e]
    exact ret_hb (by repeat' first | exact AH.le.refl _ | assumption | (refine AH.le_put ?_ (by first | assumption | exact (AH.blk_put_ne _ _ (by assumption)).trans (by assumption) | exact AH.none_put (by assumption) | exact AH.none_put (AH.none_put (by assumption)) | (simp only [AH.blk_setTok, AH.tok_put] at *; first | assumption | exact AH.none_put (by assumption)))) | (refine AH.le_setTok ?_ (by first | assumption | exact (AH.blk_put_ne _ _ (by assumption)).trans (by assumption) | exact AH.none_put (by assumption) | exact AH.none_put (AH.none_put (by assumption)) | (simp only [AH.blk_setTok, AH.tok_put] at *; first | assumption | exact AH.none_put (by assumption)))) | (refine AH.le_putM ?_ (by first | assumption | exact (AH.mp_putM_ne _ _ (by assumption)).trans (by assumption) | (simp only [AH.mp_put, AH.mp_setTok] at *; assumption)))) (by unfold ckE; rw [if_neg c1, if_neg (fun ha : allOK l => h5 (ha i h4))])
  rw [decide_eq_true h5]
  have hus := uniq_succ (l := l) (i := i)
  have hfk := find_keys (l.getD i dS).id (idsK l i)
  have hids : idsK l (i + 1) = if (l.getD i dS).id ∈ idsK l i then idsK l i else idsK l i ++ [(l.getD i dS).id] := rfl
  by_cases hin : (l.getD i dS).id ∈ idsK l i
  · rw [if_pos hin] at hfk hids
    have hup := upd_keys_in (k := (l.getD i dS).id) (l := idsK l i) hin
    cases bb with
    | true =>
      simp only [hup, F_specimen_Check, g_specimen_Check, go_sem, ↓tq_n, ↓tq_e, ↓tq_r, ↓bq_n, ↓bq_e, ↓bq_r, ↓rq_n, ↓rq_r, ↓rq_e]
      refine ⟨by rw [inR64]; omega, (i + 1, true), ⟨by simp only; omega, all_succ h2 h5, fun _ hu => (hus.1 hu).2 hin, fun _ => rfl⟩, by simp only; omega, ?_⟩
      rw [hids]; exact (GStep.forget (by repeat' first | exact EnvLe.nil _ | refine EnvLe.cons (AV.le.of_eq rfl) ?_ | refine EnvLe.cons (AV.le.undef _) ?_ | refine EnvLe.cons AV.le.unk ?_) (by repeat' first | exact AH.le.refl _ | assumption | (refine AH.le_put ?_ (by first | assumption | exact (AH.blk_put_ne _ _ (by assumption)).trans (by assumption) | exact AH.none_put (by assumption) | exact AH.none_put (AH.none_put (by assumption)) | (simp only [AH.blk_setTok, AH.tok_put] at *; first | assumption | exact AH.none_put (by assumption)))) | (refine AH.le_setTok ?_ (by first | assumption | exact (AH.blk_put_ne _ _ (by assumption)).trans (by assumption) | exact AH.none_put (by assumption) | exact AH.none_put (AH.none_put (by assumption)) | (simp only [AH.blk_setTok, AH.tok_put] at *; first | assumption | exact AH.none_put (by assumption)))) | (refine AH.le_putM ?_ (by first | assumption | exact (AH.mp_putM_ne _ _ (by assumption)).trans (by assumption) | (simp only [AH.mp_put, AH.mp_setTok] at *; assumption)))))
    | false =>
      simp only [hfk, Option.getD_some, hup, F_specimen_Check, g_specimen_Check, go_sem, ↓tq_n, ↓tq_e, ↓tq_r, ↓bq_n, ↓bq_e, ↓bq_r, ↓rq_n, ↓rq_r, ↓rq_e]
      refine ⟨by rw [inR64]; omega, (i + 1, true), ⟨by simp only; omega, all_succ h2 h5, fun _ hu => (hus.1 hu).2 hin, fun _ => rfl⟩, by simp only; omega, ?_⟩
      rw [hids]; exact (GStep.forget (by repeat' first | exact EnvLe.nil _ | refine EnvLe.cons (AV.le.of_eq rfl) ?_ | refine EnvLe.cons (AV.le.undef _) ?_ | refine EnvLe.cons AV.le.unk ?_) (by repeat' first | exact AH.le.refl _ | assumption | (refine AH.le_put ?_ (by first | assumption | exact (AH.blk_put_ne _ _ (by assumption)).trans (by assumption) | exact AH.none_put (by assumption) | exact AH.none_put (AH.none_put (by assumption)) | (simp only [AH.blk_setTok, AH.tok_put] at *; first | assumption | exact AH.none_put (by assumption)))) | (refine AH.le_setTok ?_ (by first | assumption | exact (AH.blk_put_ne _ _ (by assumption)).trans (by assumption) | exact AH.none_put (by assumption) | exact AH.none_put (AH.none_put (by assumption)) | (simp only [AH.blk_setTok, AH.tok_put] at *; first | assumption | exact AH.none_put (by assumption)))) | (refine AH.le_putM ?_ (by first | assumption | exact (AH.mp_putM_ne _ _ (by assumption)).trans (by assumption) | (simp only [AH.mp_put, AH.mp_setTok] at *; assumption)))))
  · rw [if_neg hin] at hfk hids
    have hup := upd_keys (k := (l.getD i dS).id) (l := idsK l i) hin
    cases bb with
    | true =>
      simp only [hup, F_specimen_Check, g_specimen_Check, go_sem, ↓tq_n, ↓tq_e, ↓tq_r, ↓bq_n, ↓bq_e, ↓bq_r, ↓rq_n, ↓rq_r, ↓rq_e]
      refine ⟨by rw [inR64]; omega, (i + 1, true), ⟨by simp only; omega, all_succ h2 h5, fun _ hu => h3.1 rfl (hus.1 hu).1, fun _ => rfl⟩, by simp only; omega, ?_⟩
      rw [hids]; exact (GStep.forget (by repeat' first | exact EnvLe.nil _ | refine EnvLe.cons (AV.le.of_eq rfl) ?_ | refine EnvLe.cons (AV.le.undef _) ?_ | refine EnvLe.cons AV.le.unk ?_) (by repeat' first | exact AH.le.refl _ | assumption | (refine AH.le_put ?_ (by first | assumption | exact (AH.blk_put_ne _ _ (by assumption)).trans (by assumption) | exact AH.none_put (by assumption) | exact AH.none_put (AH.none_put (by assumption)) | (simp only [AH.blk_setTok, AH.tok_put] at *; first | assumption | exact AH.none_put (by assumption)))) | (refine AH.le_setTok ?_ (by first | assumption | exact (AH.blk_put_ne _ _ (by assumption)).trans (by assumption) | exact AH.none_put (by assumption) | exact AH.none_put (AH.none_put (by assumption)) | (simp only [AH.blk_setTok, AH.tok_put] at *; first | assumption | exact AH.none_put (by assumption)))) | (refine AH.le_putM ?_ (by first | assumption | exact (AH.mp_putM_ne _ _ (by assumption)).trans (by assumption) | (simp only [AH.mp_put, AH.mp_setTok] at *; assumption)))))
    | false =>
      have hu : uniqK l i := Classical.byContradiction fun hn => by have := h3.2 hn; cases this
      simp only [hfk, Option.getD_none, hup, F_specimen_Check, g_specimen_Check, go_sem, ↓tq_n, ↓tq_e, ↓tq_r, ↓bq_n, ↓bq_e, ↓bq_r, ↓rq_n, ↓rq_r, ↓rq_e]
      refine ⟨by rw [inR64]; omega, (i + 1, false), ⟨by simp only; omega, all_succ h2 h5, fun hh => (by cases hh), fun hn => absurd (hus.2 ⟨hu, hin⟩) hn⟩, by simp only; omega, ?_⟩
      rw [hids]; exact (GStep.forget (by repeat' first | exact EnvLe.nil _ | refine EnvLe.cons (AV.le.of_eq rfl) ?_ | refine EnvLe.cons (AV.le.undef _) ?_ | refine EnvLe.cons AV.le.unk ?_) (by repeat' first | exact AH.le.refl _ | assumption | (refine AH.le_put ?_ (by first | assumption | exact (AH.blk_put_ne _ _ (by assumption)).trans (by assumption) | exact AH.none_put (by assumption) | exact AH.none_put (AH.none_put (by assumption)) | (simp only [AH.blk_setTok, AH.tok_put] at *; first | assumption | exact AH.none_put (by assumption)))) | (refine AH.le_setTok ?_ (by first | assumption | exact (AH.blk_put_ne _ _ (by assumption)).trans (by assumption) | exact AH.none_put (by assumption) | exact AH.none_put (AH.none_put (by assumption)) | (simp only [AH.blk_setTok, AH.tok_put] at *; first | assumption | exact AH.none_put (by assumption)))) | (refine AH.le_putM ?_ (by first | assumption | exact (AH.mp_putM_ne _ _ (by assumption)).trans (by assumption) | (simp only [AH.mp_put, AH.mp_setTok] at *; assumption)))))
end Go.Proofs.YtidmekdkfiljjaaGreat.P
namespace Go.Proofs.YtidmekdkfiljjaaGreat
open Go Go.Abs
set_option linter.unusedSimpArgs false
set_option linter.unusedVariables false

/-- Whether j is in the i-th set. -/
def bt (out : List Nat) (i j : Nat) : Bool := (out.getD i 0).testBit j
def u32s (l : List Nat) : List AV := l.map fun (x : Nat) => .int .u32 (x : Int)
theorem u32s_len (l : List Nat) : (u32s l).length = l.length := by simp [u32s]
/-- The sets that arcs make. -/
def nxt (n : Nat) (a : List (Int × Int)) : Nat → List Nat
  | 0 => List.replicate n 0
  | i + 1 => (nxt n a i).set (a.getD i (0, 0)).1.toNat ((nxt n a i).getD (a.getD i (0, 0)).1.toNat 0 ||| 2 ^ (a.getD i (0, 0)).2.toNat)
/-- The first i rows of one round of Warshall. -/
def wi (m : Nat) (out : List Nat) : Nat → List Nat
  | 0 => out
  | i + 1 => if bt (wi m out i) i m then (wi m out i).set i ((wi m out i).getD i 0 ||| (wi m out i).getD m 0) else wi m out i
def wr (n : Nat) (out : List Nat) : Nat → List Nat
  | 0 => out
  | m + 1 => wi m (wr n out m) n
theorem nxt_len (n : Nat) (a : List (Int × Int)) (i : Nat) : (nxt n a i).length = n := by
  induction i with
  | zero => simp [nxt]
  | succ i ih => simp [nxt, ih]
theorem wi_len (m : Nat) (out : List Nat) (i : Nat) : (wi m out i).length = out.length := by
  induction i with
  | zero => rfl
  | succ i ih => unfold wi; split <;> simp [ih]
theorem wr_len (n : Nat) (out : List Nat) (m : Nat) : (wr n out m).length = out.length := by
  induction m with
  | zero => rfl
  | succ m ih => rw [wr, wi_len, ih]
theorem getD_set {l : List Nat} {i j v : Nat} (hi : i < l.length) : (l.set i v).getD j 0 = if i = j then v else l.getD j 0 := by
  simp only [List.getD_eq_getElem?_getD, List.getElem?_set]
  by_cases h : i = j
  · subst h; simp [hi]
  · simp [h]
/-- A bit of the sets that arcs make. -/
theorem nxt_bt {n : Nat} {a : List (Int × Int)} (ha : ∀ i, i < a.length → 0 ≤ (a.getD i (0, 0)).1 ∧ (a.getD i (0, 0)).1 < n ∧ 0 ≤ (a.getD i (0, 0)).2 ∧ (a.getD i (0, 0)).2 < n) : ∀ k, k ≤ a.length → ∀ i j, bt (nxt n a k) i j = true ↔ ∃ q, q < k ∧ a.getD q (0, 0) = ((i : Int), (j : Int)) := by
  intro k
  induction k with
  | zero =>
    intro _ i j
    unfold bt nxt
    rw [List.getD_eq_getElem?_getD, List.getElem?_replicate]
    constructor
    · intro h; split at h <;> simp at h
    · rintro ⟨q, h, _⟩; omega
  | succ k ih =>
    intro hk i j
    have hq := ha k (by omega)
    have ih := ih (by omega) i j
    unfold bt nxt
    rw [getD_set (by rw [nxt_len]; omega)]
    split
    · rename_i h
      rw [Nat.testBit_or, Nat.testBit_two_pow, Bool.or_eq_true, h]
      constructor
      · rintro (h1 | h1)
        · obtain ⟨q, h2, h3⟩ := ih.1 h1; exact ⟨q, by omega, h3⟩
        · refine ⟨k, by omega, Prod.ext ?_ ?_⟩
          · simp only; omega
          · have := of_decide_eq_true h1; simp only; omega
      · rintro ⟨q, h2, h3⟩
        by_cases h4 : q = k
        · subst h4; right; rw [h3]; simp
        · left; exact ih.2 ⟨q, by omega, h3⟩
    · rename_i h
      have e : (nxt n a k).getD i 0 = (nxt n a k).getD i 0 := rfl
      show bt (nxt n a k) i j = true ↔ _
      rw [ih]
      constructor
      · rintro ⟨q, h2, h3⟩; exact ⟨q, by omega, h3⟩
      · rintro ⟨q, h2, h3⟩
        by_cases h4 : q = k
        · subst h4; rw [h3] at h; simp at h
        · exact ⟨q, by omega, h3⟩
end Go.Proofs.YtidmekdkfiljjaaGreat
namespace Go.Proofs.YtidmekdkfiljjaaGreat
open Go Go.Abs
set_option linter.unusedSimpArgs false
set_option linter.unusedVariables false

/-- A way of at least one step. -/
inductive Way (E : Nat → Nat → Prop) : Nat → Nat → Prop where
  | one {i j : Nat} (h : E i j) : Way E i j
  | step {i k j : Nat} (h : E i k) (t : Way E k j) : Way E i j
theorem Way.trans {E : Nat → Nat → Prop} {i k j : Nat} (h : Way E i k) (t : Way E k j) : Way E i j := by
  induction h with
  | one h => exact .step h t
  | step h _ ih => exact .step h (ih t)
theorem Way.mono {E F : Nat → Nat → Prop} (hm : ∀ i j, E i j → F i j) {i j : Nat} (h : Way E i j) : Way F i j := by
  induction h with
  | one h => exact .one (hm _ _ h)
  | step h _ ih => exact .step (hm _ _ h) ih
/-- The last step. -/
theorem Way.last {E : Nat → Nat → Prop} {i j : Nat} (h : Way E i j) : ∃ u, E u j ∧ (u = i ∨ Way E i u) := by
  induction h with
  | one h => exact ⟨_, h, .inl rfl⟩
  | step h _ ih =>
    obtain ⟨u, h1, h2⟩ := ih
    rcases h2 with rfl | h2
    · exact ⟨_, h1, .inr (.one h)⟩
    · exact ⟨u, h1, .inr (.step h h2)⟩
theorem Way.first {E : Nat → Nat → Prop} {i j : Nat} (h : Way E i j) : ∃ u, E i u := by
  cases h with
  | one h => exact ⟨_, h⟩
  | step h _ => exact ⟨_, h⟩

/-- Ways over vertices below m. -/
def PM (E : Nat → Nat → Prop) : Nat → Nat → Nat → Prop
  | 0, i, j => E i j
  | m + 1, i, j => PM E m i j ∨ (PM E m i m ∧ PM E m m j)
theorem PM.way {E : Nat → Nat → Prop} : ∀ {m i j : Nat}, PM E m i j → Way E i j := by
  intro m
  induction m with
  | zero => intro i j h; exact .one h
  | succ m ih =>
    intro i j h
    rcases h with h | ⟨h1, h2⟩
    · exact ih h
    · exact (ih h1).trans (ih h2)
theorem PM.trans {E : Nat → Nat → Prop} : ∀ {m i k j : Nat}, k < m → PM E m i k → PM E m k j → PM E m i j := by
  intro m
  induction m with
  | zero => intro i k j h; omega
  | succ m ih =>
    intro i k j hk h1 h2
    rcases Nat.lt_or_ge k m with hlt | hge
    · rcases h1 with h1 | ⟨h1, h1'⟩ <;> rcases h2 with h2 | ⟨h2, h2'⟩
      · exact .inl (ih hlt h1 h2)
      · exact .inr ⟨ih hlt h1 h2, h2'⟩
      · exact .inr ⟨h1, ih hlt h1' h2⟩
      · exact .inr ⟨h1, h2'⟩
    · have : k = m := by omega
      subst this
      have a : PM E k i k := by rcases h1 with h1 | ⟨h1, _⟩ <;> exact h1
      have b : PM E k k j := by rcases h2 with h2 | ⟨_, h2⟩ <;> exact h2
      exact .inr ⟨a, b⟩
theorem PM.mono {E : Nat → Nat → Prop} {i j : Nat} (h : E i j) : ∀ m, PM E m i j := by
  intro m
  induction m with
  | zero => exact h
  | succ m ih => exact .inl ih
theorem Way.pm {E : Nat → Nat → Prop} {n : Nat} (hn : ∀ i j, E i j → i < n ∧ j < n) {i j : Nat} (h : Way E i j) : PM E n i j := by
  induction h with
  | one h => exact PM.mono h n
  | step h _ ih => exact PM.trans (hn _ _ h).2 (PM.mono h n) ih

/-- The relation of sets of vertices. -/
def BE (out : List Nat) (i j : Nat) : Prop := bt out i j = true
theorem wi_bt {m : Nat} {out : List Nat} (hm : m < out.length) : ∀ k, k ≤ out.length → ∀ i j, bt (wi m out k) i j = if i < k ∧ bt out i m = true then (bt out i j || bt out m j) else bt out i j := by
  intro k
  induction k with
  | zero => intro _ i j; simp [wi]
  | succ k ih =>
    intro hk i j
    have ih := ih (by omega)
    have hkm : bt (wi m out k) k m = bt out k m := by rw [ih k m, if_neg (fun h => by omega)]
    have hrow : (wi m out k).getD m 0 = out.getD m 0 := by
      refine Nat.eq_of_testBit_eq fun q => ?_
      have := ih m q
      unfold bt at this
      rw [this]
      split <;> simp
    have hrk : (wi m out k).getD k 0 = out.getD k 0 := by
      refine Nat.eq_of_testBit_eq fun q => ?_
      have := ih k q
      unfold bt at this
      rw [this, if_neg (fun h => by omega)]
    unfold wi
    by_cases hb : bt out k m = true
    · rw [if_pos (by rw [hkm]; exact hb)]
      unfold bt
      rw [getD_set (by rw [wi_len]; omega)]
      by_cases hi : k = i
      · subst hi
        rw [if_pos rfl, hrow, hrk, Nat.testBit_or, if_pos ⟨by omega, hb⟩]
      · rw [if_neg hi]
        have := ih i j
        unfold bt at this
        rw [this]
        have e : (i < k ∧ (out.getD i 0).testBit m = true) ↔ (i < k + 1 ∧ (out.getD i 0).testBit m = true) := by
          constructor
          · intro h; exact ⟨by omega, h.2⟩
          · intro h; exact ⟨by omega, h.2⟩
        simp only [e]
    · rw [if_neg (by rw [hkm]; exact hb), ih i j]
      have e : (i < k ∧ bt out i m = true) ↔ (i < k + 1 ∧ bt out i m = true) := by
        constructor
        · intro h; exact ⟨by omega, h.2⟩
        · intro h
          refine ⟨?_, h.2⟩
          rcases Nat.lt_or_ge i k with h1 | h1
          · exact h1
          · have : i = k := by omega
            subst this
            exact absurd h.2 hb
      simp only [e]
theorem wr_pm {n : Nat} {out : List Nat} (hl : out.length = n) : ∀ m, m ≤ n → ∀ i j, i < n → (bt (wr n out m) i j = true ↔ PM (BE out) m i j) := by
  intro m
  induction m with
  | zero => intro _ i j _; exact Iff.rfl
  | succ m ih =>
    intro hm i j hi
    have hml : m < (wr n out m).length := by rw [wr_len, hl]; omega
    rw [wr, wi_bt hml n (by rw [wr_len, hl]; exact Nat.le_refl _)]
    have h1 := ih (by omega) i j hi
    have h2 := ih (by omega) i m hi
    have h3 := ih (by omega) m j (by omega)
    show _ ↔ PM (BE out) m i j ∨ (PM (BE out) m i m ∧ PM (BE out) m m j)
    rw [← h1, ← h2, ← h3]
    by_cases hb : bt (wr n out m) i m = true
    · rw [if_pos ⟨hi, hb⟩, Bool.or_eq_true]
      simp [hb]
    · rw [if_neg (fun h => hb h.2)]
      simp [hb]
/-- Warshall's closure: the ways. -/
theorem wr_way {n : Nat} {out : List Nat} (hl : out.length = n) (hn : ∀ i j, bt out i j = true → i < n ∧ j < n) {i j : Nat} (hi : i < n) : bt (wr n out n) i j = true ↔ Way (BE out) i j := by
  rw [wr_pm hl n (Nat.le_refl _) i j hi]
  exact ⟨PM.way, Way.pm hn⟩

/-- How many vertices a way leads from. -/
noncomputable def anc (E : Nat → Nat → Prop) (n v : Nat) : Nat := by
  classical exact ((List.range n).filter fun u => decide (Way E u v)).length
theorem filter_lt {p q : Nat → Bool} {n u : Nat} (hu : u < n) (h1 : q u = true) (h2 : p u = false) (hi : ∀ x, p x = true → q x = true) : ((List.range n).filter p).length < ((List.range n).filter q).length := by
  induction n with
  | zero => omega
  | succ n ih =>
    rw [List.range_succ, List.filter_append, List.filter_append, List.length_append, List.length_append]
    have hle : ∀ m, ((List.range m).filter p).length ≤ ((List.range m).filter q).length := by
      intro m
      induction m with
      | zero => simp
      | succ m ihm =>
        rw [List.range_succ, List.filter_append, List.filter_append, List.length_append, List.length_append]
        have : ([m].filter p).length ≤ ([m].filter q).length := by
          cases hp : p m with
          | false => simp [hp]
          | true => simp [hp, hi m hp]
        omega
    rcases Nat.lt_or_ge u n with h | h
    · have := ih h
      have h3 : ([n].filter p).length ≤ ([n].filter q).length := by
        cases hp : p n with
        | false => simp [hp]
        | true => simp [hp, hi n hp]
      omega
    · have : u = n := by omega
      subst this
      have := hle u
      simp [h1, h2]
      omega
theorem anc_lt {E : Nat → Nat → Prop} {n u v : Nat} (hu : u < n) (h : E u v) (hc : ¬ Way E u u) : anc E n u < anc E n v := by
  classical
  unfold anc
  exact filter_lt hu (decide_eq_true (.one h)) (decide_eq_false hc) fun x hx => decide_eq_true ((of_decide_eq_true hx).trans (.one h))
/-- Vertices that were taken away: closed against the arcs, and on no cycle. -/
def Gone (E : Nat → Nat → Prop) (g : Nat → Prop) : Prop := (∀ u v, E u v → g v → g u) ∧ ∀ v, g v → ¬ Way E v v
theorem Gone.way {E : Nat → Nat → Prop} {g : Nat → Prop} (h : Gone E g) {u v : Nat} (hw : Way E u v) (hv : g v) : g u := by
  induction hw with
  | one e => exact h.1 _ _ e hv
  | step e _ ih => exact h.1 _ _ e (ih hv)
theorem Gone.add {E : Nat → Nat → Prop} {g : Nat → Prop} (h : Gone E g) {v : Nat} (hg : ¬ g v) (hv : ∀ u, E u v → g u) : Gone E (fun x => g x ∨ x = v) := by
  refine ⟨fun u x e hx => ?_, fun x hx hc => ?_⟩
  · rcases hx with hx | rfl
    · exact .inl (h.1 _ _ e hx)
    · exact .inl (hv _ e)
  · rcases hx with hx | rfl
    · exact h.2 x hx hc
    · obtain ⟨u, h1, h2⟩ := hc.last
      have hu := hv u h1
      rcases h2 with rfl | h2
      · exact hg hu
      · exact hg (h.way h2 hu)
end Go.Proofs.YtidmekdkfiljjaaGreat
