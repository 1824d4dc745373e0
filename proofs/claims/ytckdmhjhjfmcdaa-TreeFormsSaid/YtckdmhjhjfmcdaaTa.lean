/-
  The functions that TreeForms reaches, as code over the abstract state; that they are the program's own is checked.
-/
import Derived.Test.YtckdmhjhjfmcdaaProg
import Derived.Test.YtckdmhjhjfmcdaaSt
import Derived.KernelRfl
namespace Go.Proofs.Ytckdmhjhjfmcdaa.Sx
set_option linter.unusedSimpArgs false
set_option linter.unusedVariables false
open Go
theorem mixed_on : Go.Proofs.Try.prog.follows .mixedOrders = true := by kernel_rfl
/-! sandglass/sandglasslaw20.head -/
def F4r0 : List DOper := [
  ⟨(some 0), .light (.mov (.const (.bool false))), none⟩]
def F4r1t1 : List DOper := [
  ⟨(some 9), .light (.mov (.tmp 11)), none⟩,
  ⟨(some 12), .light (.extract (.tmp 9) 0), none⟩,
  ⟨(some 13), .light (.extract (.tmp 9) 1), none⟩,
  ⟨(some 1), .light (.mov (.tmp 12)), none⟩,
  ⟨(some 2), .light (.mov (.tmp 13)), none⟩]
def F4r1 : List DOper :=
  ⟨(some 10), .light (.build [(.int .i64 0), (.int .i64 0), (.int .i64 0), (.int .i64 0)] [(0, 1, (.const (.int .i64 1))), (3, 1, (.const (.int .i64 1)))]), none⟩ ::
  ⟨(some 11), .heavy (.call 5 [(.const (.int .i64 0)), (.tmp 10), (.const (.int .i64 1)), (.const (.int .i64 100))]), none⟩ ::
  F4r1t1
def F4r2t1 : List DOper := [
  ⟨(some 14), .light (.mov (.tmp 16)), none⟩,
  ⟨(some 17), .light (.extract (.tmp 14) 0), none⟩,
  ⟨(some 18), .light (.extract (.tmp 14) 1), none⟩,
  ⟨(some 3), .light (.mov (.tmp 17)), none⟩,
  ⟨(some 4), .light (.mov (.tmp 18)), none⟩]
def F4r2 : List DOper :=
  ⟨(some 15), .light (.build [(.int .i64 0), (.int .i64 0), (.int .i64 0), (.int .i64 0)] [(0, 1, (.const (.int .i64 2))), (3, 1, (.const (.int .i64 2)))]), none⟩ ::
  ⟨(some 16), .heavy (.call 5 [(.const (.int .i64 0)), (.tmp 15), (.const (.int .i64 1)), (.const (.int .i64 100))]), none⟩ ::
  F4r2t1
def F4r3 : List DOper := [
  ⟨(some 19), .light (.mov (.tmp 2)), none⟩,
  ⟨(some 20), .light (.bin .int .neq (.tmp 19) (.const (.int .i64 0))), none⟩,
  ⟨(some 21), .light (.mov (.tmp 20)), none⟩,
  ⟨(some 22), .light (.mov (.tmp 4)), (some (21, false))⟩,
  ⟨(some 23), .light (.bin .int .neq (.tmp 22) (.const (.int .i64 0))), (some (21, false))⟩,
  ⟨(some 24), .light (.pick (.tmp 21) (.const (.bool true)) (.tmp 23)), none⟩,
  ⟨(some 25), .light (.mov (.tmp 24)), none⟩,
  ⟨(some 26), .light (.mov (.tmp 1)), (some (25, false))⟩,
  ⟨(some 27), .light (.bin .ptr .eql (.tmp 26) (.const (.pointer none))), (some (25, false))⟩,
  ⟨(some 28), .light (.pick (.tmp 25) (.const (.bool true)) (.tmp 27)), none⟩,
  ⟨(some 29), .light (.mov (.tmp 28)), none⟩,
  ⟨(some 30), .light (.mov (.tmp 3)), (some (29, false))⟩,
  ⟨(some 31), .light (.bin .ptr .eql (.tmp 30) (.const (.pointer none))), (some (29, false))⟩,
  ⟨(some 32), .light (.pick (.tmp 29) (.const (.bool true)) (.tmp 31)), none⟩]
def F4r4 : List DOper := [
  ⟨(some 0), .light (.mov (.const (.bool false))), none⟩]
def F4c0 : DCode := (.seq (.row F4r4 [0]) .ret)
def F4c1 : DCode := (.cond (.tmp 32) F4c0 .skip [1, 3])
def F4r5t1 : List DOper := [
  ]
def F4r5 : List DOper :=
  ⟨(some 33), .light (.mov (.tmp 1)), none⟩ ::
  ⟨(some 34), .heavy (.call 6 [(.tmp 33), (.const (.int .i64 0)), (.const (.bool true))]), none⟩ ::
  F4r5t1
def F4r6t1 : List DOper := [
  ]
def F4r6 : List DOper :=
  ⟨(some 35), .light (.mov (.tmp 3)), none⟩ ::
  ⟨(some 36), .heavy (.call 6 [(.tmp 35), (.const (.int .i64 0)), (.const (.bool true))]), none⟩ ::
  F4r6t1
def F4r7t1 : List DOper := [
  ⟨(some 37), .light (.mov (.tmp 39)), none⟩,
  ⟨(some 40), .light (.extract (.tmp 37) 0), none⟩,
  ⟨(some 41), .light (.extract (.tmp 37) 1), none⟩,
  ⟨(some 5), .alloc (.alloc [(.int .i64 0), (.int .i64 0), (.int .i64 0), (.int .i64 0), (.int .i64 0), (.int .i64 0), (.int .i64 0), (.int .i64 0), (.int .i64 0), (.int .i64 0), (.int .i64 0), (.int .i64 0), (.int .i64 0), (.int .i64 0), (.int .i64 0), (.slice none 0 0)]), none⟩,
  ⟨none, .heavy (.store 16 (.tmp 5) (.tmp 40)), none⟩,
  ⟨(some 6), .light (.mov (.tmp 41)), none⟩]
def F4r7 : List DOper :=
  ⟨(some 38), .light (.mov (.tmp 1)), none⟩ ::
  ⟨(some 39), .heavy (.call 9 [(.tmp 38), (.const (.int .i64 0)), (.const (.int .i64 1)), (.const (.int .i64 0))]), none⟩ ::
  F4r7t1
def F4r8t1 : List DOper := [
  ⟨(some 48), .light (.bin .int .neq (.tmp 47) (.const (.int .i64 0))), (some (44, false))⟩,
  ⟨(some 49), .light (.pick (.tmp 44) (.const (.bool true)) (.tmp 48)), none⟩]
def F4r8 : List DOper :=
  ⟨(some 42), .light (.mov (.tmp 6)), none⟩ ::
  ⟨(some 43), .light (.un .not (.tmp 42)), none⟩ ::
  ⟨(some 44), .light (.mov (.tmp 43)), none⟩ ::
  ⟨(some 45), .light (.mov (.tmp 3)), (some (44, false))⟩ ::
  ⟨(some 46), .light (.load (some 16) (.tmp 5)), (some (44, false))⟩ ::
  ⟨(some 47), .heavy (.call 7 [(.tmp 45), (.const (.int .i64 0)), (.tmp 46), (.const (.int .i64 0))]), (some (44, false))⟩ ::
  F4r8t1
def F4r9 : List DOper := [
  ⟨(some 0), .light (.mov (.const (.bool false))), none⟩]
def F4c2 : DCode := (.seq (.row F4r9 [0]) .ret)
def F4c3 : DCode := (.cond (.tmp 49) F4c2 .skip [1, 3])
def F4r10t1 : List DOper := [
  ⟨(some 50), .light (.mov (.tmp 52)), none⟩,
  ⟨(some 53), .light (.extract (.tmp 50) 0), none⟩,
  ⟨(some 54), .light (.extract (.tmp 50) 1), none⟩,
  ⟨(some 7), .alloc (.alloc [(.int .i64 0), (.int .i64 0), (.int .i64 0), (.int .i64 0), (.int .i64 0), (.int .i64 0), (.int .i64 0), (.int .i64 0)]), none⟩,
  ⟨none, .heavy (.store 8 (.tmp 7) (.tmp 53)), none⟩,
  ⟨(some 8), .light (.mov (.tmp 54)), none⟩]
def F4r10 : List DOper :=
  ⟨(some 51), .light (.mov (.tmp 3)), none⟩ ::
  ⟨(some 52), .heavy (.call 11 [(.tmp 51), (.const (.int .i64 5))]), none⟩ ::
  F4r10t1
def F4r11t2 : List DOper := [
  ⟨(some 77), .light (.un .not (.tmp 76)), (some (74, true))⟩,
  ⟨(some 78), .light (.pick (.tmp 74) (.tmp 77) (.const (.bool false))), none⟩,
  ⟨(some 0), .light (.mov (.tmp 78)), none⟩]
def F4r11t1 : List DOper :=
  ⟨(some 73), .light (.pick (.tmp 70) (.tmp 72) (.const (.bool false))), none⟩ ::
  ⟨(some 74), .light (.mov (.tmp 73)), none⟩ ::
  ⟨(some 75), .light (.mov (.tmp 3)), (some (74, true))⟩ ::
  ⟨(some 76), .heavy (.call 12 [(.tmp 75), (.const (.int .i64 5))]), (some (74, true))⟩ ::
  F4r11t2
def F4r11 : List DOper :=
  ⟨(some 55), .light (.fieldAddr 0 (.tmp 7)), none⟩ ::
  ⟨(some 56), .light (.fieldAddr 3 (.tmp 55)), none⟩ ::
  ⟨(some 57), .light (.load none (.tmp 56)), none⟩ ::
  ⟨(some 58), .light (.bin .int .eql (.tmp 57) (.const (.int .i64 1))), none⟩ ::
  ⟨(some 59), .light (.mov (.tmp 58)), none⟩ ::
  ⟨(some 60), .light (.mov (.tmp 8)), (some (59, true))⟩ ::
  ⟨(some 61), .light (.lenS (.tmp 60)), (some (59, true))⟩ ::
  ⟨(some 62), .light (.bin .int .eql (.tmp 61) (.const (.int .i64 1))), (some (59, true))⟩ ::
  ⟨(some 63), .light (.pick (.tmp 59) (.tmp 62) (.const (.bool false))), none⟩ ::
  ⟨(some 64), .light (.mov (.tmp 63)), none⟩ ::
  ⟨(some 65), .light (.mov (.tmp 8)), (some (64, true))⟩ ::
  ⟨(some 66), .light (.idxSl 1 (.tmp 65) (.const (.int .i64 0))), (some (64, true))⟩ ::
  ⟨(some 67), .light (.load none (.tmp 66)), (some (64, true))⟩ ::
  ⟨(some 68), .light (.bin .int .eql (.tmp 67) (.const (.int .i64 2))), (some (64, true))⟩ ::
  ⟨(some 69), .light (.pick (.tmp 64) (.tmp 68) (.const (.bool false))), none⟩ ::
  ⟨(some 70), .light (.mov (.tmp 69)), none⟩ ::
  ⟨(some 71), .light (.mov (.tmp 1)), (some (70, true))⟩ ::
  ⟨(some 72), .heavy (.call 12 [(.tmp 71), (.const (.int .i64 5))]), (some (70, true))⟩ ::
  F4r11t1
def F4c4 : DCode := (.seq (.row F4r11 [0]) .ret)
def F4c5 : DCode := (.seq (.row F4r10 [1, 3, 7, 8]) F4c4)
def F4c6 : DCode := (.seq (.seq (.row F4r8 [1, 3, 49]) F4c3) F4c5)
def F4c7 : DCode := (.seq (.row F4r7 [1, 3, 5, 6]) F4c6)
def F4c8 : DCode := (.seq (.row F4r6 [1, 3]) F4c7)
def F4c9 : DCode := (.seq (.row F4r5 [1, 3]) F4c8)
def F4c10 : DCode := (.seq (.seq (.row F4r3 [1, 3, 32]) F4c1) F4c9)
def F4c11 : DCode := (.seq (.row F4r2 [1, 2, 3, 4]) F4c10)
def F4c12 : DCode := (.seq (.row F4r1 [1, 2]) F4c11)
def F4 : DCode := (.seq (.row F4r0 []) F4c12)
def F4a : Ann := (.two (.reg [] none) (.two (.reg [1, 2] none) (.two (.reg [1, 2, 3, 4] none) (.two (.two (.reg [1, 3, 32] none) (.two (.two (.reg [0] none) .nil []) .nil [1, 3]) []) (.two (.reg [1, 3] none) (.two (.reg [1, 3] none) (.two (.reg [1, 3, 5, 6] none) (.two (.two (.reg [1, 3, 49] none) (.two (.two (.reg [0] none) .nil []) .nil [1, 3]) []) (.two (.reg [1, 3, 7, 8] none) (.two (.reg [0] none) .nil []) []) []) []) []) []) []) []) []) [])
theorem F4_comp : Go.Proofs.Try.f4.body.bind (compC Go.Proofs.Try.prog 79 F4a) = some F4 := by kernel_rfl
theorem F4_call {args : List Value} (hn : args.length ≤ 79) {A : AHeap} {K : Value → AHeap → Prop} (h : wpC Go.Proofs.Try.prog F4 (enterE 0 args) A (endK [.tmp 0] K)) : dcall Go.Proofs.Try.prog 4 args A K :=
  dcall_by (fn := Go.Proofs.Try.f4) (ann := F4a) mixed_on Go.Proofs.Try.func4 F4_comp rfl hn h
/-! sandglass/tree.New -/
def F5r0 : List DOper := [
  ⟨(some 5), .alloc (.box (.tmp 1)), none⟩,
  ⟨(some 8), .light (.mov (.const (.pointer none))), none⟩,
  ⟨(some 9), .light (.mov (.const (.int .i64 0))), none⟩]
def F5r1 : List DOper := [
  ⟨(some 11), .light (.mov (.tmp 0)), none⟩,
  ⟨(some 12), .light (.bin .int .lss (.tmp 11) (.const (.int .i64 0))), none⟩,
  ⟨(some 13), .light (.mov (.tmp 12)), none⟩,
  ⟨(some 14), .light (.mov (.tmp 0)), (some (13, false))⟩,
  ⟨(some 15), .light (.bin .int .gtr (.tmp 14) (.const (.int .i64 127))), (some (13, false))⟩,
  ⟨(some 16), .light (.pick (.tmp 13) (.const (.bool true)) (.tmp 15)), none⟩,
  ⟨(some 17), .light (.mov (.tmp 16)), none⟩,
  ⟨(some 18), .light (.mov (.tmp 2)), (some (17, false))⟩,
  ⟨(some 19), .light (.bin .int .lss (.tmp 18) (.const (.int .i64 0))), (some (17, false))⟩,
  ⟨(some 20), .light (.pick (.tmp 17) (.const (.bool true)) (.tmp 19)), none⟩,
  ⟨(some 21), .light (.mov (.tmp 20)), none⟩,
  ⟨(some 22), .light (.mov (.tmp 2)), (some (21, false))⟩,
  ⟨(some 23), .light (.bin .int .gtr (.tmp 22) (.const (.int .i64 8))), (some (21, false))⟩,
  ⟨(some 24), .light (.pick (.tmp 21) (.const (.bool true)) (.tmp 23)), none⟩,
  ⟨(some 25), .light (.mov (.tmp 24)), none⟩,
  ⟨(some 26), .light (.mov (.tmp 3)), (some (25, false))⟩,
  ⟨(some 27), .light (.bin .int .lss (.tmp 26) (.const (.int .i64 1))), (some (25, false))⟩,
  ⟨(some 28), .light (.pick (.tmp 25) (.const (.bool true)) (.tmp 27)), none⟩,
  ⟨(some 29), .light (.mov (.tmp 28)), none⟩,
  ⟨(some 30), .light (.mov (.tmp 3)), (some (29, false))⟩,
  ⟨(some 31), .light (.bin .int .gtr (.tmp 30) (.const (.int .i64 1099511627776))), (some (29, false))⟩,
  ⟨(some 32), .light (.pick (.tmp 29) (.const (.bool true)) (.tmp 31)), none⟩]
def F5r2 : List DOper := [
  ⟨(some 8), .light (.mov (.const (.pointer none))), none⟩,
  ⟨(some 9), .light (.mov (.const (.int .i64 1))), none⟩]
def F5c0 : DCode := (.seq (.row F5r2 [8, 9]) .ret)
def F5c1 : DCode := (.cond (.tmp 32) F5c0 .skip [0, 2, 3, 5])
def F5r3t1 : List DOper := [
  ⟨(some 10), .light (.mov (.tmp 35)), none⟩]
def F5r3 : List DOper :=
  ⟨(some 33), .light (.load (some 4) (.tmp 5)), none⟩ ::
  ⟨(some 34), .light (.build [(.int .i64 0), (.int .i64 0), (.int .i64 0), (.int .i64 0), (.int .i64 0), (.int .i64 0), (.int .i64 0), (.int .i64 0), (.int .i64 0), (.int .i64 0), (.int .i64 0), (.int .i64 0), (.int .i64 0), (.int .i64 0), (.int .i64 0), (.slice none 0 0)] [(0, 1, (.const (.int .i64 11))), (10, 4, (.tmp 33))]), none⟩ ::
  ⟨(some 35), .heavy (.call 13 [(.tmp 34)]), none⟩ ::
  F5r3t1
def F5r4 : List DOper := [
  ⟨(some 36), .light (.mov (.tmp 10)), none⟩,
  ⟨(some 37), .light (.bin .int .neq (.tmp 36) (.const (.int .i64 0))), none⟩]
def F5r5 : List DOper := [
  ⟨(some 38), .light (.mov (.tmp 10)), none⟩,
  ⟨(some 8), .light (.mov (.const (.pointer none))), none⟩,
  ⟨(some 9), .light (.mov (.tmp 38)), none⟩]
def F5c2 : DCode := (.seq (.row F5r5 [8, 9]) .ret)
def F5c3 : DCode := (.cond (.tmp 37) F5c2 .skip [0, 2, 3, 5])
def F5c4 : DCode := (.seq (.row F5r4 [0, 2, 3, 5, 10, 37]) F5c3)
def F5r6 : List DOper := [
  ⟨(some 39), .light (.mov (.tmp 0)), none⟩,
  ⟨(some 40), .light (.load (some 4) (.tmp 5)), none⟩,
  ⟨(some 41), .light (.mov (.tmp 3)), none⟩,
  ⟨(some 42), .light (.mov (.tmp 2)), none⟩,
  ⟨(some 43), .alloc (.makeslice [(.bool false)] 1 1 (.tmp 42) (.tmp 42)), none⟩,
  ⟨(some 44), .light (.mov (.tmp 2)), none⟩,
  ⟨(some 45), .alloc (.makeslice [(.bool false), (.bool false), (.int .i64 0), (.int .i64 0), (.int .i64 0), (.int .i64 0), (.int .i64 0), (.int .i64 0), (.int .i64 0), (.int .i64 0)] 10 72 (.tmp 44) (.tmp 44)), none⟩,
  ⟨(some 46), .light (.mov (.tmp 2)), none⟩,
  ⟨(some 47), .alloc (.makeslice [(.slice none 0 0)] 1 24 (.tmp 46) (.tmp 46)), none⟩,
  ⟨(some 48), .light (.mov (.tmp 2)), none⟩,
  ⟨(some 49), .alloc (.makeslice [(.int .i64 0)] 1 8 (.tmp 48) (.tmp 48)), none⟩,
  ⟨(some 50), .light (.build [(.int .i64 0), (.int .i64 0), (.int .i64 0), (.int .i64 0), (.int .i64 0), (.int .i64 0), (.slice none 0 0), (.slice none 0 0), (.slice none 0 0), (.slice none 0 0)] [(0, 1, (.tmp 39)), (1, 4, (.tmp 40)), (5, 1, (.tmp 41)), (6, 1, (.tmp 43)), (7, 1, (.tmp 45)), (8, 1, (.tmp 47)), (9, 1, (.tmp 49))]), none⟩,
  ⟨(some 51), .alloc (.box (.tmp 50)), none⟩,
  ⟨(some 8), .light (.mov (.tmp 51)), none⟩,
  ⟨(some 9), .light (.mov (.const (.int .i64 0))), none⟩]
def F5p6 : Plan := ⟨[.light 0, .light 1, .light 2, .light 3, .light 4, .light 5, .light 6, .light 7, .light 8, .light 9, .light 10, .light 11, .light 12, .light 13, .light 14], [4, 6, 8, 10, 12], [4, 6, 8, 10, 12], [[], [], [], [], [3], [], [5], [], [7], [], [9], [0, 1, 2, 3, 4, 5, 6, 7, 8, 9, 10], [0, 1, 2, 3, 4, 5, 6, 7, 8, 9, 10, 11], [0, 1, 2, 3, 4, 5, 6, 7, 8, 9, 10, 11, 12], [0, 1, 2, 3, 4, 5, 6, 7, 8, 9, 10, 11, 12, 13]]⟩
def F5s6 : List RStep := [
  .light 5 ⟨(some 39), .light (.mov (.tmp 0)), none⟩,
  .light 5 ⟨(some 40), .light (.load (some 4) (.tmp 5)), none⟩,
  .light 5 ⟨(some 41), .light (.mov (.tmp 3)), none⟩,
  .light 5 ⟨(some 42), .light (.mov (.tmp 2)), none⟩,
  .light 0 ⟨(some 43), .alloc (.makeslice [(.bool false)] 1 1 (.tmp 42) (.tmp 42)), none⟩,
  .light 5 ⟨(some 44), .light (.mov (.tmp 2)), none⟩,
  .light 1 ⟨(some 45), .alloc (.makeslice [(.bool false), (.bool false), (.int .i64 0), (.int .i64 0), (.int .i64 0), (.int .i64 0), (.int .i64 0), (.int .i64 0), (.int .i64 0), (.int .i64 0)] 10 72 (.tmp 44) (.tmp 44)), none⟩,
  .light 5 ⟨(some 46), .light (.mov (.tmp 2)), none⟩,
  .light 2 ⟨(some 47), .alloc (.makeslice [(.slice none 0 0)] 1 24 (.tmp 46) (.tmp 46)), none⟩,
  .light 5 ⟨(some 48), .light (.mov (.tmp 2)), none⟩,
  .light 3 ⟨(some 49), .alloc (.makeslice [(.int .i64 0)] 1 8 (.tmp 48) (.tmp 48)), none⟩,
  .light 5 ⟨(some 50), .light (.build [(.int .i64 0), (.int .i64 0), (.int .i64 0), (.int .i64 0), (.int .i64 0), (.int .i64 0), (.slice none 0 0), (.slice none 0 0), (.slice none 0 0), (.slice none 0 0)] [(0, 1, (.tmp 39)), (1, 4, (.tmp 40)), (5, 1, (.tmp 41)), (6, 1, (.tmp 43)), (7, 1, (.tmp 45)), (8, 1, (.tmp 47)), (9, 1, (.tmp 49))]), none⟩,
  .light 4 ⟨(some 51), .alloc (.box (.tmp 50)), none⟩,
  .light 5 ⟨(some 8), .light (.mov (.tmp 51)), none⟩,
  .light 5 ⟨(some 9), .light (.mov (.const (.int .i64 0))), none⟩]
theorem F5d6 {E : Env} {A : AHeap} {K : Exit → Env → AHeap → Prop} : wpC Go.Proofs.Try.prog (.draw F5r6 F5p6 [8, 9]) E A K = wpD Go.Proofs.Try.prog [(0, ⟨(some 43), .alloc (.makeslice [(.bool false)] 1 1 (.tmp 42) (.tmp 42)), none⟩), (1, ⟨(some 45), .alloc (.makeslice [(.bool false), (.bool false), (.int .i64 0), (.int .i64 0), (.int .i64 0), (.int .i64 0), (.int .i64 0), (.int .i64 0), (.int .i64 0), (.int .i64 0)] 10 72 (.tmp 44) (.tmp 44)), none⟩), (2, ⟨(some 47), .alloc (.makeslice [(.slice none 0 0)] 1 24 (.tmp 46) (.tmp 46)), none⟩), (3, ⟨(some 49), .alloc (.makeslice [(.int .i64 0)] 1 8 (.tmp 48) (.tmp 48)), none⟩), (4, ⟨(some 51), .alloc (.box (.tmp 50)), none⟩)] A.next F5s6 E (A.reserve 5) fun E' A' => K .normal (E'.keep [8, 9]) A' := wpC_res rfl rfl rfl
def F5c5 : DCode := (.seq (.draw F5r6 F5p6 [8, 9]) .ret)
def F5c6 : DCode := (.seq (.seq (.row F5r3 [0, 2, 3, 5, 10]) F5c4) F5c5)
def F5c7 : DCode := (.seq (.seq (.row F5r1 [0, 2, 3, 5, 32]) F5c1) F5c6)
def F5 : DCode := (.seq (.row F5r0 [0, 2, 3, 5]) F5c7)
def F5a : Ann := (.two (.reg [0, 2, 3, 5] none) (.two (.two (.reg [0, 2, 3, 5, 32] none) (.two (.two (.reg [8, 9] none) .nil []) .nil [0, 2, 3, 5]) []) (.two (.two (.reg [0, 2, 3, 5, 10] none) (.two (.reg [0, 2, 3, 5, 10, 37] none) (.two (.two (.reg [8, 9] none) .nil []) .nil [0, 2, 3, 5]) []) []) (.two (.reg [8, 9] (some F5p6)) .nil []) []) []) [])
theorem F5_comp : Go.Proofs.Try.f5.body.bind (compC Go.Proofs.Try.prog 52 F5a) = some F5 := by kernel_rfl
theorem F5_call {args : List Value} (hn : args.length ≤ 52) {A : AHeap} {K : Value → AHeap → Prop} (h : wpC Go.Proofs.Try.prog F5 (enterE 0 args) A (endK [.tmp 8, .tmp 9] K)) : dcall Go.Proofs.Try.prog 5 args A K :=
  dcall_by (fn := Go.Proofs.Try.f5) (ann := F5a) mixed_on Go.Proofs.Try.func5 F5_comp rfl hn h
/-! (*sandglass/tree.Tree).Up -/
def F6r0 : List DOper := [
  ⟨(some 6), .light (.mov (.tmp 0)), none⟩,
  ⟨(some 7), .light (.bin .ptr .eql (.tmp 6) (.const (.pointer none))), none⟩,
  ⟨(some 8), .light (.mov (.tmp 7)), none⟩,
  ⟨(some 9), .light (.mov (.tmp 1)), (some (8, false))⟩,
  ⟨(some 10), .light (.bin .int .lss (.tmp 9) (.const (.int .i64 0))), (some (8, false))⟩,
  ⟨(some 11), .light (.pick (.tmp 8) (.const (.bool true)) (.tmp 10)), none⟩,
  ⟨(some 12), .light (.mov (.tmp 11)), none⟩,
  ⟨(some 13), .light (.mov (.tmp 1)), (some (12, false))⟩,
  ⟨(some 14), .light (.mov (.tmp 0)), (some (12, false))⟩,
  ⟨(some 15), .light (.nilchk (.tmp 14)), (some (12, false))⟩,
  ⟨(some 16), .light (.fieldAddr 6 (.tmp 15)), (some (12, false))⟩,
  ⟨(some 17), .light (.load none (.tmp 16)), (some (12, false))⟩,
  ⟨(some 18), .light (.lenS (.tmp 17)), (some (12, false))⟩,
  ⟨(some 19), .light (.bin .int .geq (.tmp 13) (.tmp 18)), (some (12, false))⟩,
  ⟨(some 20), .light (.pick (.tmp 12) (.const (.bool true)) (.tmp 19)), none⟩,
  ⟨(some 21), .light (.mov (.tmp 20)), none⟩,
  ⟨(some 22), .light (.mov (.tmp 0)), (some (21, false))⟩,
  ⟨(some 23), .light (.nilchk (.tmp 22)), (some (21, false))⟩,
  ⟨(some 24), .light (.fieldAddr 6 (.tmp 23)), (some (21, false))⟩,
  ⟨(some 25), .light (.load none (.tmp 24)), (some (21, false))⟩,
  ⟨(some 26), .light (.mov (.tmp 1)), (some (21, false))⟩,
  ⟨(some 27), .light (.idxSl 1 (.tmp 25) (.tmp 26)), (some (21, false))⟩,
  ⟨(some 28), .light (.load none (.tmp 27)), (some (21, false))⟩,
  ⟨(some 29), .light (.mov (.tmp 2)), (some (21, false))⟩,
  ⟨(some 30), .light (.bin .bool .eql (.tmp 28) (.tmp 29)), (some (21, false))⟩,
  ⟨(some 31), .light (.pick (.tmp 21) (.const (.bool true)) (.tmp 30)), none⟩]
def F6c0 : DCode := (.cond (.tmp 31) .ret .skip [0, 1, 2])
def F6r1 : List DOper := [
  ⟨(some 32), .light (.mov (.tmp 0)), none⟩,
  ⟨(some 33), .light (.nilchk (.tmp 32)), none⟩,
  ⟨(some 34), .light (.fieldAddr 6 (.tmp 33)), none⟩,
  ⟨(some 35), .light (.load none (.tmp 34)), none⟩,
  ⟨(some 36), .light (.mov (.tmp 1)), none⟩,
  ⟨(some 37), .light (.mov (.tmp 2)), none⟩,
  ⟨(some 38), .light (.idxSl 1 (.tmp 35) (.tmp 36)), none⟩,
  ⟨none, .heavy (.store 1 (.tmp 38) (.tmp 37)), none⟩]
def F6r2 : List DOper := [
  ⟨(some 39), .light (.mov (.tmp 0)), none⟩,
  ⟨(some 40), .light (.nilchk (.tmp 39)), none⟩,
  ⟨(some 41), .light (.fieldAddr 7 (.tmp 40)), none⟩,
  ⟨(some 42), .light (.load none (.tmp 41)), none⟩,
  ⟨(some 43), .light (.mov (.tmp 1)), none⟩,
  ⟨(some 44), .light (.mov (.tmp 0)), none⟩,
  ⟨(some 45), .light (.nilchk (.tmp 44)), none⟩,
  ⟨(some 46), .light (.fieldAddr 8 (.tmp 45)), none⟩,
  ⟨(some 47), .light (.load none (.tmp 46)), none⟩,
  ⟨(some 48), .light (.mov (.tmp 1)), none⟩,
  ⟨(some 49), .light (.build [(.bool false), (.bool false), (.int .i64 0), (.int .i64 0), (.int .i64 0), (.int .i64 0), (.int .i64 0), (.int .i64 0), (.int .i64 0), (.int .i64 0)] []), none⟩,
  ⟨(some 50), .light (.idxSl 10 (.tmp 42) (.tmp 43)), none⟩,
  ⟨none, .heavy (.store 10 (.tmp 50) (.tmp 49)), none⟩,
  ⟨(some 51), .light (.idxSl 1 (.tmp 47) (.tmp 48)), none⟩,
  ⟨none, .heavy (.store 1 (.tmp 51) (.const (.slice none 0 0))), none⟩]
def F6p2 : Plan := ⟨[.light 0, .light 1, .light 2, .light 3, .light 4, .light 5, .light 6, .light 7, .light 8, .light 9, .light 10, .light 11, .heavy 12 [] [], .light 13, .heavy 14 [] []], [], [], [[], [0], [0, 1], [0, 1, 2], [], [], [5], [5, 6], [5, 6, 7], [], [], [0, 1, 2, 3, 4, 5, 6, 7, 8, 10], [0, 1, 2, 3, 4, 5, 6, 7, 8, 10, 11], [0, 1, 2, 3, 4, 5, 6, 7, 8, 9, 10, 11, 12], [0, 1, 2, 3, 4, 5, 6, 7, 8, 9, 10, 11, 12, 13]]⟩
def F6s2 : List RStep := [
  .light 0 ⟨(some 39), .light (.mov (.tmp 0)), none⟩,
  .light 0 ⟨(some 40), .light (.nilchk (.tmp 39)), none⟩,
  .light 0 ⟨(some 41), .light (.fieldAddr 7 (.tmp 40)), none⟩,
  .light 0 ⟨(some 42), .light (.load none (.tmp 41)), none⟩,
  .light 0 ⟨(some 43), .light (.mov (.tmp 1)), none⟩,
  .light 0 ⟨(some 44), .light (.mov (.tmp 0)), none⟩,
  .light 0 ⟨(some 45), .light (.nilchk (.tmp 44)), none⟩,
  .light 0 ⟨(some 46), .light (.fieldAddr 8 (.tmp 45)), none⟩,
  .light 0 ⟨(some 47), .light (.load none (.tmp 46)), none⟩,
  .light 0 ⟨(some 48), .light (.mov (.tmp 1)), none⟩,
  .light 0 ⟨(some 49), .light (.build [(.bool false), (.bool false), (.int .i64 0), (.int .i64 0), (.int .i64 0), (.int .i64 0), (.int .i64 0), (.int .i64 0), (.int .i64 0), (.int .i64 0)] []), none⟩,
  .light 0 ⟨(some 50), .light (.idxSl 10 (.tmp 42) (.tmp 43)), none⟩,
  .heavy ⟨none, .heavy (.store 10 (.tmp 50) (.tmp 49)), none⟩ [] [],
  .light 0 ⟨(some 51), .light (.idxSl 1 (.tmp 47) (.tmp 48)), none⟩,
  .heavy ⟨none, .heavy (.store 1 (.tmp 51) (.const (.slice none 0 0))), none⟩ [] []]
theorem F6d2 {E : Env} {A : AHeap} {K : Exit → Env → AHeap → Prop} : wpC Go.Proofs.Try.prog (.draw F6r2 F6p2 []) E A K = wpD Go.Proofs.Try.prog [] A.next F6s2 E (A.reserve 0) fun E' A' => K .normal (E'.keep []) A' := wpC_res rfl rfl rfl
def F6c1 : DCode := (.draw F6r2 F6p2 [])
def F6c2 : DCode := (.seq (.row F6r1 [0, 1]) F6c1)
def F6 : DCode := (.seq (.seq (.row F6r0 [0, 1, 2, 31]) F6c0) F6c2)
def F6a : Ann := (.two (.two (.reg [0, 1, 2, 31] none) (.two .nil .nil [0, 1, 2]) []) (.two (.reg [0, 1] none) (.reg [] (some F6p2)) []) [])
theorem F6_comp : Go.Proofs.Try.f6.body.bind (compC Go.Proofs.Try.prog 52 F6a) = some F6 := by kernel_rfl
theorem F6_call {args : List Value} (hn : args.length ≤ 52) {A : AHeap} {K : Value → AHeap → Prop} (h : wpC Go.Proofs.Try.prog F6 (enterE 0 args) A (endK [] K)) : dcall Go.Proofs.Try.prog 6 args A K :=
  dcall_by (fn := Go.Proofs.Try.f6) (ann := F6a) mixed_on Go.Proofs.Try.func6 F6_comp rfl hn h
/-! (*sandglass/tree.Tree).In -/
def F7r0 : List DOper := [
  ⟨(some 6), .alloc (.box (.tmp 2)), none⟩,
  ⟨(some 8), .light (.mov (.const (.int .i64 0))), none⟩]
def F7r1 : List DOper := [
  ⟨(some 10), .light (.mov (.tmp 0)), none⟩,
  ⟨(some 11), .light (.bin .ptr .eql (.tmp 10) (.const (.pointer none))), none⟩,
  ⟨(some 12), .light (.mov (.tmp 11)), none⟩,
  ⟨(some 13), .light (.fieldAddr 0 (.tmp 6)), (some (12, false))⟩,
  ⟨(some 14), .light (.load none (.tmp 13)), (some (12, false))⟩,
  ⟨(some 15), .light (.bin .int .neq (.tmp 14) (.const (.int .i64 11))), (some (12, false))⟩,
  ⟨(some 16), .light (.pick (.tmp 12) (.const (.bool true)) (.tmp 15)), none⟩,
  ⟨(some 17), .light (.mov (.tmp 16)), none⟩,
  ⟨(some 18), .light (.load (some 16) (.tmp 6)), (some (17, false))⟩,
  ⟨(some 19), .heavy (.call 13 [(.tmp 18)]), (some (17, false))⟩,
  ⟨(some 20), .light (.bin .int .neq (.tmp 19) (.const (.int .i64 0))), (some (17, false))⟩,
  ⟨(some 21), .light (.pick (.tmp 17) (.const (.bool true)) (.tmp 20)), none⟩,
  ⟨(some 22), .light (.mov (.tmp 21)), none⟩,
  ⟨(some 23), .light (.fieldAddr 1 (.tmp 6)), (some (22, false))⟩,
  ⟨(some 24), .light (.load none (.tmp 23)), (some (22, false))⟩,
  ⟨(some 25), .light (.mov (.tmp 0)), (some (22, false))⟩,
  ⟨(some 26), .light (.nilchk (.tmp 25)), (some (22, false))⟩,
  ⟨(some 27), .light (.fieldAddr 0 (.tmp 26)), (some (22, false))⟩,
  ⟨(some 28), .light (.load none (.tmp 27)), (some (22, false))⟩,
  ⟨(some 29), .light (.bin .int .neq (.tmp 24) (.tmp 28)), (some (22, false))⟩,
  ⟨(some 30), .light (.pick (.tmp 22) (.const (.bool true)) (.tmp 29)), none⟩,
  ⟨(some 9), .light (.mov (.tmp 30)), none⟩]
def F7p1 : Plan := ⟨[.light 0, .light 1, .light 2, .light 3, .light 4, .light 5, .light 6, .light 7, .light 8, .heavy 9 [] [], .light 10, .light 11, .light 12, .light 13, .light 14, .light 15, .light 16, .light 17, .light 18, .light 19, .light 20, .light 21], [], [], [[], [0], [0, 1], [0, 1, 2], [0, 1, 2, 3], [0, 1, 2, 3, 4], [0, 1, 2, 3, 4, 5], [0, 1, 2, 3, 4, 5, 6], [0, 1, 2, 3, 4, 5, 6, 7], [0, 1, 2, 3, 4, 5, 6, 7, 8], [0, 1, 2, 3, 4, 5, 6, 7, 8, 9], [0, 1, 2, 3, 4, 5, 6, 7, 8, 9, 10], [0, 1, 2, 3, 4, 5, 6, 7, 8, 9, 10, 11], [0, 1, 2, 3, 4, 5, 6, 7, 8, 9, 10, 11, 12], [0, 1, 2, 3, 4, 5, 6, 7, 8, 9, 10, 11, 12, 13], [0, 1, 2, 3, 4, 5, 6, 7, 8, 9, 10, 11, 12], [0, 1, 2, 3, 4, 5, 6, 7, 8, 9, 10, 11, 12, 15], [0, 1, 2, 3, 4, 5, 6, 7, 8, 9, 10, 11, 12, 15, 16], [0, 1, 2, 3, 4, 5, 6, 7, 8, 9, 10, 11, 12, 15, 16, 17], [0, 1, 2, 3, 4, 5, 6, 7, 8, 9, 10, 11, 12, 13, 14, 15, 16, 17, 18], [0, 1, 2, 3, 4, 5, 6, 7, 8, 9, 10, 11, 12, 13, 14, 15, 16, 17, 18, 19], [0, 1, 2, 3, 4, 5, 6, 7, 8, 9, 10, 11, 12, 13, 14, 15, 16, 17, 18, 19, 20]]⟩
def F7s1t1 : List RStep := [
  .light 0 ⟨(some 20), .light (.bin .int .neq (.tmp 19) (.const (.int .i64 0))), (some (17, false))⟩,
  .light 0 ⟨(some 21), .light (.pick (.tmp 17) (.const (.bool true)) (.tmp 20)), none⟩,
  .light 0 ⟨(some 22), .light (.mov (.tmp 21)), none⟩,
  .light 0 ⟨(some 23), .light (.fieldAddr 1 (.tmp 6)), (some (22, false))⟩,
  .light 0 ⟨(some 24), .light (.load none (.tmp 23)), (some (22, false))⟩,
  .light 0 ⟨(some 25), .light (.mov (.tmp 0)), (some (22, false))⟩,
  .light 0 ⟨(some 26), .light (.nilchk (.tmp 25)), (some (22, false))⟩,
  .light 0 ⟨(some 27), .light (.fieldAddr 0 (.tmp 26)), (some (22, false))⟩,
  .light 0 ⟨(some 28), .light (.load none (.tmp 27)), (some (22, false))⟩,
  .light 0 ⟨(some 29), .light (.bin .int .neq (.tmp 24) (.tmp 28)), (some (22, false))⟩,
  .light 0 ⟨(some 30), .light (.pick (.tmp 22) (.const (.bool true)) (.tmp 29)), none⟩,
  .light 0 ⟨(some 9), .light (.mov (.tmp 30)), none⟩]
def F7s1 : List RStep :=
  .light 0 ⟨(some 10), .light (.mov (.tmp 0)), none⟩ ::
  .light 0 ⟨(some 11), .light (.bin .ptr .eql (.tmp 10) (.const (.pointer none))), none⟩ ::
  .light 0 ⟨(some 12), .light (.mov (.tmp 11)), none⟩ ::
  .light 0 ⟨(some 13), .light (.fieldAddr 0 (.tmp 6)), (some (12, false))⟩ ::
  .light 0 ⟨(some 14), .light (.load none (.tmp 13)), (some (12, false))⟩ ::
  .light 0 ⟨(some 15), .light (.bin .int .neq (.tmp 14) (.const (.int .i64 11))), (some (12, false))⟩ ::
  .light 0 ⟨(some 16), .light (.pick (.tmp 12) (.const (.bool true)) (.tmp 15)), none⟩ ::
  .light 0 ⟨(some 17), .light (.mov (.tmp 16)), none⟩ ::
  .light 0 ⟨(some 18), .light (.load (some 16) (.tmp 6)), (some (17, false))⟩ ::
  .heavy ⟨(some 19), .heavy (.call 13 [(.tmp 18)]), (some (17, false))⟩ [] [] ::
  F7s1t1
theorem F7d1 {E : Env} {A : AHeap} {K : Exit → Env → AHeap → Prop} : wpC Go.Proofs.Try.prog (.draw F7r1 F7p1 [0, 1, 3, 6, 9]) E A K = wpD Go.Proofs.Try.prog [] A.next F7s1 E (A.reserve 0) fun E' A' => K .normal (E'.keep [0, 1, 3, 6, 9]) A' := wpC_res rfl rfl rfl
def F7r2 : List DOper := [
  ⟨(some 8), .light (.mov (.const (.int .i64 23))), none⟩]
def F7c0 : DCode := (.seq (.row F7r2 [8]) .ret)
def F7r3 : List DOper := [
  ⟨(some 32), .light (.mov (.tmp 1)), none⟩,
  ⟨(some 33), .light (.bin .int .lss (.tmp 32) (.const (.int .i64 0))), none⟩,
  ⟨(some 34), .light (.mov (.tmp 33)), none⟩,
  ⟨(some 35), .light (.mov (.tmp 1)), (some (34, false))⟩,
  ⟨(some 36), .light (.mov (.tmp 0)), (some (34, false))⟩,
  ⟨(some 37), .light (.nilchk (.tmp 36)), (some (34, false))⟩,
  ⟨(some 38), .light (.fieldAddr 6 (.tmp 37)), (some (34, false))⟩,
  ⟨(some 39), .light (.load none (.tmp 38)), (some (34, false))⟩,
  ⟨(some 40), .light (.lenS (.tmp 39)), (some (34, false))⟩,
  ⟨(some 41), .light (.bin .int .geq (.tmp 35) (.tmp 40)), (some (34, false))⟩,
  ⟨(some 42), .light (.pick (.tmp 34) (.const (.bool true)) (.tmp 41)), none⟩,
  ⟨(some 43), .light (.mov (.tmp 42)), none⟩,
  ⟨(some 44), .light (.mov (.tmp 0)), (some (43, false))⟩,
  ⟨(some 45), .light (.nilchk (.tmp 44)), (some (43, false))⟩,
  ⟨(some 46), .light (.fieldAddr 6 (.tmp 45)), (some (43, false))⟩,
  ⟨(some 47), .light (.load none (.tmp 46)), (some (43, false))⟩,
  ⟨(some 48), .light (.mov (.tmp 1)), (some (43, false))⟩,
  ⟨(some 49), .light (.idxSl 1 (.tmp 47) (.tmp 48)), (some (43, false))⟩,
  ⟨(some 50), .light (.load none (.tmp 49)), (some (43, false))⟩,
  ⟨(some 51), .light (.un .not (.tmp 50)), (some (43, false))⟩,
  ⟨(some 52), .light (.pick (.tmp 43) (.const (.bool true)) (.tmp 51)), none⟩,
  ⟨(some 31), .light (.mov (.tmp 52)), none⟩]
def F7r4 : List DOper := [
  ⟨(some 8), .light (.mov (.const (.int .i64 40))), none⟩]
def F7c1 : DCode := (.seq (.row F7r4 [8]) .ret)
def F7r5 : List DOper := [
  ⟨(some 54), .light (.fieldAddr 3 (.tmp 6)), none⟩,
  ⟨(some 55), .light (.load none (.tmp 54)), none⟩,
  ⟨(some 56), .light (.mov (.tmp 0)), none⟩,
  ⟨(some 57), .light (.nilchk (.tmp 56)), none⟩,
  ⟨(some 58), .light (.fieldAddr 1 (.tmp 57)), none⟩,
  ⟨(some 59), .light (.fieldAddr 3 (.tmp 58)), none⟩,
  ⟨(some 60), .light (.load none (.tmp 59)), none⟩,
  ⟨(some 61), .light (.bin .int .eql (.tmp 55) (.tmp 60)), none⟩,
  ⟨(some 62), .light (.mov (.tmp 61)), none⟩,
  ⟨(some 63), .light (.fieldAddr 15 (.tmp 6)), (some (62, false))⟩,
  ⟨(some 64), .light (.load none (.tmp 63)), (some (62, false))⟩,
  ⟨(some 65), .light (.mov (.tmp 0)), (some (62, false))⟩,
  ⟨(some 66), .light (.nilchk (.tmp 65)), (some (62, false))⟩,
  ⟨(some 67), .light (.fieldAddr 1 (.tmp 66)), (some (62, false))⟩,
  ⟨(some 68), .light (.fieldAddr 3 (.tmp 67)), (some (62, false))⟩,
  ⟨(some 69), .light (.load none (.tmp 68)), (some (62, false))⟩,
  ⟨(some 70), .heavy (.call 14 [(.tmp 64), (.tmp 69)]), (some (62, false))⟩,
  ⟨(some 71), .light (.pick (.tmp 62) (.const (.bool true)) (.tmp 70)), none⟩,
  ⟨(some 72), .light (.mov (.tmp 71)), none⟩,
  ⟨(some 73), .light (.fieldAddr 14 (.tmp 6)), (some (72, false))⟩,
  ⟨(some 74), .light (.load none (.tmp 73)), (some (72, false))⟩,
  ⟨(some 75), .light (.bin .int .geq (.tmp 74) (.const (.int .i64 255))), (some (72, false))⟩,
  ⟨(some 76), .light (.pick (.tmp 72) (.const (.bool true)) (.tmp 75)), none⟩,
  ⟨(some 77), .light (.mov (.tmp 76)), none⟩,
  ⟨(some 78), .light (.fieldAddr 15 (.tmp 6)), (some (77, false))⟩,
  ⟨(some 79), .light (.load none (.tmp 78)), (some (77, false))⟩,
  ⟨(some 80), .light (.lenS (.tmp 79)), (some (77, false))⟩,
  ⟨(some 81), .light (.bin .int .geq (.tmp 80) (.const (.int .i64 32))), (some (77, false))⟩,
  ⟨(some 82), .light (.pick (.tmp 77) (.const (.bool true)) (.tmp 81)), none⟩,
  ⟨(some 53), .light (.mov (.tmp 82)), none⟩]
def F7p5 : Plan := ⟨[.light 0, .light 1, .light 2, .light 3, .light 4, .light 5, .light 6, .light 7, .light 8, .light 9, .light 10, .light 11, .light 12, .light 13, .light 14, .light 15, .heavy 16 [] [], .light 17, .light 18, .light 19, .light 20, .light 21, .light 22, .light 23, .light 24, .light 25, .light 26, .light 27, .light 28, .light 29], [], [], [[], [0], [], [2], [2, 3], [2, 3, 4], [2, 3, 4, 5], [0, 1, 2, 3, 4, 5, 6], [0, 1, 2, 3, 4, 5, 6, 7], [0, 1, 2, 3, 4, 5, 6, 7, 8], [0, 1, 2, 3, 4, 5, 6, 7, 8, 9], [0, 1, 2, 3, 4, 5, 6, 7, 8], [0, 1, 2, 3, 4, 5, 6, 7, 8, 11], [0, 1, 2, 3, 4, 5, 6, 7, 8, 11, 12], [0, 1, 2, 3, 4, 5, 6, 7, 8, 11, 12, 13], [0, 1, 2, 3, 4, 5, 6, 7, 8, 11, 12, 13, 14], [0, 1, 2, 3, 4, 5, 6, 7, 8, 9, 10, 11, 12, 13, 14, 15], [0, 1, 2, 3, 4, 5, 6, 7, 8, 9, 10, 11, 12, 13, 14, 15, 16], [0, 1, 2, 3, 4, 5, 6, 7, 8, 9, 10, 11, 12, 13, 14, 15, 16, 17], [0, 1, 2, 3, 4, 5, 6, 7, 8, 9, 10, 11, 12, 13, 14, 15, 16, 17, 18], [0, 1, 2, 3, 4, 5, 6, 7, 8, 9, 10, 11, 12, 13, 14, 15, 16, 17, 18, 19], [0, 1, 2, 3, 4, 5, 6, 7, 8, 9, 10, 11, 12, 13, 14, 15, 16, 17, 18, 19, 20], [0, 1, 2, 3, 4, 5, 6, 7, 8, 9, 10, 11, 12, 13, 14, 15, 16, 17, 18, 19, 20, 21], [0, 1, 2, 3, 4, 5, 6, 7, 8, 9, 10, 11, 12, 13, 14, 15, 16, 17, 18, 19, 20, 21, 22], [0, 1, 2, 3, 4, 5, 6, 7, 8, 9, 10, 11, 12, 13, 14, 15, 16, 17, 18, 19, 20, 21, 22, 23], [0, 1, 2, 3, 4, 5, 6, 7, 8, 9, 10, 11, 12, 13, 14, 15, 16, 17, 18, 19, 20, 21, 22, 23, 24], [0, 1, 2, 3, 4, 5, 6, 7, 8, 9, 10, 11, 12, 13, 14, 15, 16, 17, 18, 19, 20, 21, 22, 23, 24, 25], [0, 1, 2, 3, 4, 5, 6, 7, 8, 9, 10, 11, 12, 13, 14, 15, 16, 17, 18, 19, 20, 21, 22, 23, 24, 25, 26], [0, 1, 2, 3, 4, 5, 6, 7, 8, 9, 10, 11, 12, 13, 14, 15, 16, 17, 18, 19, 20, 21, 22, 23, 24, 25, 26, 27], [0, 1, 2, 3, 4, 5, 6, 7, 8, 9, 10, 11, 12, 13, 14, 15, 16, 17, 18, 19, 20, 21, 22, 23, 24, 25, 26, 27, 28]]⟩
def F7s5t1 : List RStep := [
  .light 0 ⟨(some 71), .light (.pick (.tmp 62) (.const (.bool true)) (.tmp 70)), none⟩,
  .light 0 ⟨(some 72), .light (.mov (.tmp 71)), none⟩,
  .light 0 ⟨(some 73), .light (.fieldAddr 14 (.tmp 6)), (some (72, false))⟩,
  .light 0 ⟨(some 74), .light (.load none (.tmp 73)), (some (72, false))⟩,
  .light 0 ⟨(some 75), .light (.bin .int .geq (.tmp 74) (.const (.int .i64 255))), (some (72, false))⟩,
  .light 0 ⟨(some 76), .light (.pick (.tmp 72) (.const (.bool true)) (.tmp 75)), none⟩,
  .light 0 ⟨(some 77), .light (.mov (.tmp 76)), none⟩,
  .light 0 ⟨(some 78), .light (.fieldAddr 15 (.tmp 6)), (some (77, false))⟩,
  .light 0 ⟨(some 79), .light (.load none (.tmp 78)), (some (77, false))⟩,
  .light 0 ⟨(some 80), .light (.lenS (.tmp 79)), (some (77, false))⟩,
  .light 0 ⟨(some 81), .light (.bin .int .geq (.tmp 80) (.const (.int .i64 32))), (some (77, false))⟩,
  .light 0 ⟨(some 82), .light (.pick (.tmp 77) (.const (.bool true)) (.tmp 81)), none⟩,
  .light 0 ⟨(some 53), .light (.mov (.tmp 82)), none⟩]
def F7s5 : List RStep :=
  .light 0 ⟨(some 54), .light (.fieldAddr 3 (.tmp 6)), none⟩ ::
  .light 0 ⟨(some 55), .light (.load none (.tmp 54)), none⟩ ::
  .light 0 ⟨(some 56), .light (.mov (.tmp 0)), none⟩ ::
  .light 0 ⟨(some 57), .light (.nilchk (.tmp 56)), none⟩ ::
  .light 0 ⟨(some 58), .light (.fieldAddr 1 (.tmp 57)), none⟩ ::
  .light 0 ⟨(some 59), .light (.fieldAddr 3 (.tmp 58)), none⟩ ::
  .light 0 ⟨(some 60), .light (.load none (.tmp 59)), none⟩ ::
  .light 0 ⟨(some 61), .light (.bin .int .eql (.tmp 55) (.tmp 60)), none⟩ ::
  .light 0 ⟨(some 62), .light (.mov (.tmp 61)), none⟩ ::
  .light 0 ⟨(some 63), .light (.fieldAddr 15 (.tmp 6)), (some (62, false))⟩ ::
  .light 0 ⟨(some 64), .light (.load none (.tmp 63)), (some (62, false))⟩ ::
  .light 0 ⟨(some 65), .light (.mov (.tmp 0)), (some (62, false))⟩ ::
  .light 0 ⟨(some 66), .light (.nilchk (.tmp 65)), (some (62, false))⟩ ::
  .light 0 ⟨(some 67), .light (.fieldAddr 1 (.tmp 66)), (some (62, false))⟩ ::
  .light 0 ⟨(some 68), .light (.fieldAddr 3 (.tmp 67)), (some (62, false))⟩ ::
  .light 0 ⟨(some 69), .light (.load none (.tmp 68)), (some (62, false))⟩ ::
  .heavy ⟨(some 70), .heavy (.call 14 [(.tmp 64), (.tmp 69)]), (some (62, false))⟩ [] [] ::
  F7s5t1
theorem F7d5 {E : Env} {A : AHeap} {K : Exit → Env → AHeap → Prop} : wpC Go.Proofs.Try.prog (.draw F7r5 F7p5 [0, 1, 3, 6, 53]) E A K = wpD Go.Proofs.Try.prog [] A.next F7s5 E (A.reserve 0) fun E' A' => K .normal (E'.keep [0, 1, 3, 6, 53]) A' := wpC_res rfl rfl rfl
def F7r6 : List DOper := [
  ⟨(some 8), .light (.mov (.const (.int .i64 31))), none⟩]
def F7c2 : DCode := (.seq (.row F7r6 [8]) .ret)
def F7c3 : DCode := (.cond (.tmp 53) F7c2 .skip [0, 1, 3, 6])
def F7c4 : DCode := (.seq (.draw F7r5 F7p5 [0, 1, 3, 6, 53]) F7c3)
def F7c5 : DCode := (.cond (.tmp 31) F7c1 F7c4 [0, 1, 3, 6])
def F7c6 : DCode := (.seq (.row F7r3 [0, 1, 3, 6, 31]) F7c5)
def F7c7 : DCode := (.cond (.tmp 9) F7c0 F7c6 [0, 1, 3, 6])
def F7c8 : DCode := (.seq (.draw F7r1 F7p1 [0, 1, 3, 6, 9]) F7c7)
def F7r7 : List DOper := [
  ⟨(some 83), .light (.mov (.tmp 0)), none⟩,
  ⟨(some 84), .light (.nilchk (.tmp 83)), none⟩,
  ⟨(some 85), .light (.fieldAddr 7 (.tmp 84)), none⟩,
  ⟨(some 86), .light (.load none (.tmp 85)), none⟩,
  ⟨(some 87), .light (.mov (.tmp 1)), none⟩,
  ⟨(some 88), .light (.fieldAddr 10 (.tmp 6)), none⟩,
  ⟨(some 89), .light (.load (some 4) (.tmp 88)), none⟩,
  ⟨(some 90), .light (.fieldAddr 14 (.tmp 6)), none⟩,
  ⟨(some 91), .light (.load none (.tmp 90)), none⟩,
  ⟨(some 92), .light (.fieldAddr 3 (.tmp 6)), none⟩,
  ⟨(some 93), .light (.load none (.tmp 92)), none⟩,
  ⟨(some 94), .light (.fieldAddr 4 (.tmp 6)), none⟩,
  ⟨(some 95), .light (.load none (.tmp 94)), none⟩,
  ⟨(some 96), .light (.build [(.int .i64 0), (.int .i64 0), (.int .i64 0), (.int .i64 0), (.int .i64 0), (.int .i64 0), (.int .i64 0), (.int .i64 0)] [(0, 4, (.tmp 89)), (4, 1, (.tmp 91)), (5, 1, (.tmp 93)), (6, 1, (.tmp 95))]), none⟩,
  ⟨(some 97), .light (.build [(.bool false), (.bool false), (.int .i64 0), (.int .i64 0), (.int .i64 0), (.int .i64 0), (.int .i64 0), (.int .i64 0), (.int .i64 0), (.int .i64 0)] [(1, 1, (.const (.bool true))), (2, 8, (.tmp 96))]), none⟩,
  ⟨(some 98), .light (.idxSl 10 (.tmp 86) (.tmp 87)), none⟩,
  ⟨none, .heavy (.store 10 (.tmp 98) (.tmp 97)), none⟩]
def F7p7 : Plan := ⟨[.light 0, .light 1, .light 2, .light 3, .light 4, .light 5, .light 6, .light 7, .light 8, .light 9, .light 10, .light 11, .light 12, .light 13, .light 14, .light 15, .heavy 16 [] []], [], [], [[], [0], [0, 1], [0, 1, 2], [], [], [5], [], [7], [], [9], [], [11], [5, 6, 7, 8, 9, 10, 11, 12], [5, 6, 7, 8, 9, 10, 11, 12, 13], [0, 1, 2, 3, 4, 5, 6, 7, 8, 9, 10, 11, 12, 13, 14], [0, 1, 2, 3, 4, 5, 6, 7, 8, 9, 10, 11, 12, 13, 14, 15]]⟩
def F7s7 : List RStep := [
  .light 0 ⟨(some 83), .light (.mov (.tmp 0)), none⟩,
  .light 0 ⟨(some 84), .light (.nilchk (.tmp 83)), none⟩,
  .light 0 ⟨(some 85), .light (.fieldAddr 7 (.tmp 84)), none⟩,
  .light 0 ⟨(some 86), .light (.load none (.tmp 85)), none⟩,
  .light 0 ⟨(some 87), .light (.mov (.tmp 1)), none⟩,
  .light 0 ⟨(some 88), .light (.fieldAddr 10 (.tmp 6)), none⟩,
  .light 0 ⟨(some 89), .light (.load (some 4) (.tmp 88)), none⟩,
  .light 0 ⟨(some 90), .light (.fieldAddr 14 (.tmp 6)), none⟩,
  .light 0 ⟨(some 91), .light (.load none (.tmp 90)), none⟩,
  .light 0 ⟨(some 92), .light (.fieldAddr 3 (.tmp 6)), none⟩,
  .light 0 ⟨(some 93), .light (.load none (.tmp 92)), none⟩,
  .light 0 ⟨(some 94), .light (.fieldAddr 4 (.tmp 6)), none⟩,
  .light 0 ⟨(some 95), .light (.load none (.tmp 94)), none⟩,
  .light 0 ⟨(some 96), .light (.build [(.int .i64 0), (.int .i64 0), (.int .i64 0), (.int .i64 0), (.int .i64 0), (.int .i64 0), (.int .i64 0), (.int .i64 0)] [(0, 4, (.tmp 89)), (4, 1, (.tmp 91)), (5, 1, (.tmp 93)), (6, 1, (.tmp 95))]), none⟩,
  .light 0 ⟨(some 97), .light (.build [(.bool false), (.bool false), (.int .i64 0), (.int .i64 0), (.int .i64 0), (.int .i64 0), (.int .i64 0), (.int .i64 0), (.int .i64 0), (.int .i64 0)] [(1, 1, (.const (.bool true))), (2, 8, (.tmp 96))]), none⟩,
  .light 0 ⟨(some 98), .light (.idxSl 10 (.tmp 86) (.tmp 87)), none⟩,
  .heavy ⟨none, .heavy (.store 10 (.tmp 98) (.tmp 97)), none⟩ [] []]
theorem F7d7 {E : Env} {A : AHeap} {K : Exit → Env → AHeap → Prop} : wpC Go.Proofs.Try.prog (.draw F7r7 F7p7 [0, 1, 3, 6]) E A K = wpD Go.Proofs.Try.prog [] A.next F7s7 E (A.reserve 0) fun E' A' => K .normal (E'.keep [0, 1, 3, 6]) A' := wpC_res rfl rfl rfl
def F7r8 : List DOper := [
  ⟨(some 99), .light (.mov (.tmp 0)), none⟩,
  ⟨(some 100), .light (.nilchk (.tmp 99)), none⟩,
  ⟨(some 101), .light (.fieldAddr 8 (.tmp 100)), none⟩,
  ⟨(some 102), .light (.load none (.tmp 101)), none⟩,
  ⟨(some 103), .light (.mov (.tmp 1)), none⟩,
  ⟨(some 104), .light (.mov (.tmp 0)), none⟩,
  ⟨(some 105), .light (.nilchk (.tmp 104)), none⟩,
  ⟨(some 106), .light (.fieldAddr 9 (.tmp 105)), none⟩,
  ⟨(some 107), .light (.load none (.tmp 106)), none⟩,
  ⟨(some 108), .light (.mov (.tmp 1)), none⟩,
  ⟨(some 109), .light (.fieldAddr 15 (.tmp 6)), none⟩,
  ⟨(some 110), .light (.load none (.tmp 109)), none⟩,
  ⟨(some 111), .heavy (.call 15 [(.tmp 110)]), none⟩,
  ⟨(some 112), .light (.mov (.tmp 3)), none⟩,
  ⟨(some 113), .light (.idxSl 1 (.tmp 102) (.tmp 103)), none⟩,
  ⟨none, .heavy (.store 1 (.tmp 113) (.tmp 111)), none⟩,
  ⟨(some 114), .light (.idxSl 1 (.tmp 107) (.tmp 108)), none⟩,
  ⟨none, .heavy (.store 1 (.tmp 114) (.tmp 112)), none⟩]
def F7p8 : Plan := ⟨[.light 0, .light 1, .light 2, .light 3, .light 4, .light 5, .light 6, .light 7, .light 8, .light 9, .light 10, .light 11, .light 13, .heavy 12 [] [8, 3], .light 14, .heavy 15 [] [], .light 16, .heavy 17 [] []], [], [], [[], [0], [0, 1], [0, 1, 2], [], [], [5], [5, 6], [5, 6, 7], [], [], [10], [10, 11], [], [0, 1, 2, 3, 4, 5, 6, 7, 8, 10, 11, 12], [0, 1, 2, 3, 4, 5, 6, 7, 8, 10, 11, 12, 14], [0, 1, 2, 3, 4, 5, 6, 7, 8, 9, 10, 11, 12, 13, 14, 15], [0, 1, 2, 3, 4, 5, 6, 7, 8, 9, 10, 11, 12, 13, 14, 15, 16]]⟩
def F7k8_1 : List DOper := [⟨(some 107), .light (.load none (.tmp 106)), none⟩, ⟨(some 102), .light (.load none (.tmp 101)), none⟩]
def F7s8t1 : List RStep := [
  .light 0 ⟨(some 113), .light (.idxSl 1 (.tmp 102) (.tmp 103)), none⟩,
  .heavy ⟨none, .heavy (.store 1 (.tmp 113) (.tmp 111)), none⟩ [] [],
  .light 0 ⟨(some 114), .light (.idxSl 1 (.tmp 107) (.tmp 108)), none⟩,
  .heavy ⟨none, .heavy (.store 1 (.tmp 114) (.tmp 112)), none⟩ [] []]
def F7s8 : List RStep :=
  .light 0 ⟨(some 99), .light (.mov (.tmp 0)), none⟩ ::
  .light 0 ⟨(some 100), .light (.nilchk (.tmp 99)), none⟩ ::
  .light 0 ⟨(some 101), .light (.fieldAddr 8 (.tmp 100)), none⟩ ::
  .light 0 ⟨(some 102), .light (.load none (.tmp 101)), none⟩ ::
  .light 0 ⟨(some 103), .light (.mov (.tmp 1)), none⟩ ::
  .light 0 ⟨(some 104), .light (.mov (.tmp 0)), none⟩ ::
  .light 0 ⟨(some 105), .light (.nilchk (.tmp 104)), none⟩ ::
  .light 0 ⟨(some 106), .light (.fieldAddr 9 (.tmp 105)), none⟩ ::
  .light 0 ⟨(some 107), .light (.load none (.tmp 106)), none⟩ ::
  .light 0 ⟨(some 108), .light (.mov (.tmp 1)), none⟩ ::
  .light 0 ⟨(some 109), .light (.fieldAddr 15 (.tmp 6)), none⟩ ::
  .light 0 ⟨(some 110), .light (.load none (.tmp 109)), none⟩ ::
  .light 0 ⟨(some 112), .light (.mov (.tmp 3)), none⟩ ::
  .heavy ⟨(some 111), .heavy (.call 15 [(.tmp 110)]), none⟩ [] F7k8_1 ::
  F7s8t1
theorem F7d8 {E : Env} {A : AHeap} {K : Exit → Env → AHeap → Prop} : wpC Go.Proofs.Try.prog (.draw F7r8 F7p8 []) E A K = wpD Go.Proofs.Try.prog [] A.next F7s8 E (A.reserve 0) fun E' A' => K .normal (E'.keep []) A' := wpC_res rfl rfl rfl
def F7r9 : List DOper := [
  ⟨(some 8), .light (.mov (.const (.int .i64 0))), none⟩]
def F7c9 : DCode := (.seq (.row F7r9 [8]) .ret)
def F7c10 : DCode := (.seq (.draw F7r8 F7p8 []) F7c9)
def F7c11 : DCode := (.seq (.draw F7r7 F7p7 [0, 1, 3, 6]) F7c10)
def F7c12 : DCode := (.seq (.block 0 F7c8 [0, 1, 3, 6]) F7c11)
def F7 : DCode := (.seq (.row F7r0 [0, 1, 3, 6]) F7c12)
def F7a : Ann := (.two (.reg [0, 1, 3, 6] none) (.two (.one (.two (.reg [0, 1, 3, 6, 9] (some F7p1)) (.two (.two (.reg [8] none) .nil []) (.two (.reg [0, 1, 3, 6, 31] none) (.two (.two (.reg [8] none) .nil []) (.two (.reg [0, 1, 3, 6, 53] (some F7p5)) (.two (.two (.reg [8] none) .nil []) .nil [0, 1, 3, 6]) []) [0, 1, 3, 6]) []) [0, 1, 3, 6]) []) [0, 1, 3, 6]) (.two (.reg [0, 1, 3, 6] (some F7p7)) (.two (.reg [] (some F7p8)) (.two (.reg [8] none) .nil []) []) []) []) [])
theorem F7_comp : Go.Proofs.Try.f7.body.bind (compC Go.Proofs.Try.prog 115 F7a) = some F7 := by kernel_rfl
theorem F7_call {args : List Value} (hn : args.length ≤ 115) {A : AHeap} {K : Value → AHeap → Prop} (h : wpC Go.Proofs.Try.prog F7 (enterE 0 args) A (endK [.tmp 8] K)) : dcall Go.Proofs.Try.prog 7 args A K :=
  dcall_by (fn := Go.Proofs.Try.f7) (ann := F7a) mixed_on Go.Proofs.Try.func7 F7_comp rfl hn h
/-! sandglass/sandglasslaw20.TreeForms$1 -/
def F8r0 : List DOper := [
  ⟨(some 4), .light (.mov (.const (.bool false))), none⟩]
def F8r1 : List DOper := [
  ⟨(some 11), .light (.load none (.tmp 1)), none⟩,
  ⟨(some 12), .light (.lenS (.tmp 11)), none⟩,
  ⟨(some 13), .light (.mov (.const (.int .i64 0))), none⟩]
def F8r2 : List DOper := [
  ⟨(some 14), .light (.bin .int .lss (.tmp 13) (.tmp 12)), none⟩]
def F8r3 : List DOper := [
  ⟨(some 15), .light (.idxSl 4 (.tmp 11) (.tmp 13)), none⟩,
  ⟨(some 16), .light (.load (some 4) (.tmp 15)), none⟩,
  ⟨(some 6), .alloc (.alloc [(.int .i64 0), (.int .i64 0), (.int .i64 0), (.int .i64 0)]), none⟩,
  ⟨none, .heavy (.store 4 (.tmp 6) (.tmp 16)), none⟩]
def F8r4 : List DOper := [
  ⟨(some 7), .light (.mov (.const (.int .i64 0))), none⟩]
def F8r5 : List DOper := [
  ⟨(some 17), .light (.mov (.tmp 7)), none⟩,
  ⟨(some 18), .light (.bin .int .lss (.tmp 17) (.const (.int .i64 2))), none⟩]
def F8c0 : DCode := (.cond (.tmp 18) .skip (.exit 2) [0, 2, 6, 7, 11, 12, 13])
def F8r6 : List DOper := [
  ⟨(some 22), .light (.load none (.tmp 2)), none⟩,
  ⟨(some 23), .light (.mov (.tmp 7)), none⟩,
  ⟨(some 24), .light (.idxArr 2 2 (.tmp 6) (.tmp 23)), none⟩,
  ⟨(some 25), .light (.fieldAddr 0 (.tmp 24)), none⟩,
  ⟨(some 26), .light (.load none (.tmp 25)), none⟩,
  ⟨(some 27), .light (.idxSl 1 (.tmp 22) (.tmp 26)), none⟩,
  ⟨(some 28), .light (.load none (.tmp 27)), none⟩,
  ⟨(some 29), .light (.mov (.tmp 7)), none⟩,
  ⟨(some 30), .light (.idxArr 2 2 (.tmp 6) (.tmp 29)), none⟩,
  ⟨(some 31), .light (.fieldAddr 1 (.tmp 30)), none⟩,
  ⟨(some 32), .light (.load none (.tmp 31)), none⟩,
  ⟨(some 33), .light (.mov (.tmp 0)), none⟩,
  ⟨(some 34), .light (.bin .int .and (.tmp 33) (.const (.int .i64 255))), none⟩,
  ⟨(some 35), .light (.mov (.tmp 0)), none⟩,
  ⟨(some 36), .heavy (.call 9 [(.tmp 28), (.tmp 32), (.tmp 34), (.tmp 35)]), none⟩,
  ⟨(some 21), .light (.mov (.tmp 36)), none⟩,
  ⟨(some 37), .light (.extract (.tmp 21) 0), none⟩,
  ⟨(some 38), .light (.extract (.tmp 21) 1), none⟩,
  ⟨(some 8), .alloc (.alloc [(.int .i64 0), (.int .i64 0), (.int .i64 0), (.int .i64 0), (.int .i64 0), (.int .i64 0), (.int .i64 0), (.int .i64 0), (.int .i64 0), (.int .i64 0), (.int .i64 0), (.int .i64 0), (.int .i64 0), (.int .i64 0), (.int .i64 0), (.slice none 0 0)]), none⟩,
  ⟨none, .heavy (.store 16 (.tmp 8) (.tmp 37)), none⟩,
  ⟨(some 9), .light (.mov (.tmp 38)), none⟩]
def F8p6 : Plan := ⟨[.light 0, .light 1, .light 2, .light 3, .light 4, .light 5, .light 6, .light 7, .light 8, .light 9, .light 10, .light 11, .light 12, .light 13, .light 18, .heavy 14 [] [], .light 15, .light 16, .light 17, .heavy 19 [18] [], .light 20], [18], [], [[], [], [1], [1, 2], [1, 2, 3], [0, 1, 2, 3, 4], [0, 1, 2, 3, 4, 5], [], [7], [7, 8], [7, 8, 9], [], [11], [], [0, 1, 2, 3, 4, 5, 6, 7, 8, 9, 10, 11, 12, 13], [0, 1, 2, 3, 4, 5, 6, 7, 8, 9, 10, 11, 12, 13, 14], [0, 1, 2, 3, 4, 5, 6, 7, 8, 9, 10, 11, 12, 13, 14, 15], [0, 1, 2, 3, 4, 5, 6, 7, 8, 9, 10, 11, 12, 13, 14, 15], [], [0, 1, 2, 3, 4, 5, 6, 7, 8, 9, 10, 11, 12, 13, 14, 15, 16, 18], [0, 1, 2, 3, 4, 5, 6, 7, 8, 9, 10, 11, 12, 13, 14, 15, 16, 17, 18, 19]]⟩
def F8s6t1 : List RStep := [
  .light 1 ⟨(some 21), .light (.mov (.tmp 36)), none⟩,
  .light 1 ⟨(some 37), .light (.extract (.tmp 21) 0), none⟩,
  .light 1 ⟨(some 38), .light (.extract (.tmp 21) 1), none⟩,
  .heavy ⟨none, .heavy (.store 16 (.tmp 8) (.tmp 37)), none⟩ [(0, ⟨(some 8), .alloc (.alloc [(.int .i64 0), (.int .i64 0), (.int .i64 0), (.int .i64 0), (.int .i64 0), (.int .i64 0), (.int .i64 0), (.int .i64 0), (.int .i64 0), (.int .i64 0), (.int .i64 0), (.int .i64 0), (.int .i64 0), (.int .i64 0), (.int .i64 0), (.slice none 0 0)]), none⟩)] [],
  .light 1 ⟨(some 9), .light (.mov (.tmp 38)), none⟩]
def F8s6 : List RStep :=
  .light 1 ⟨(some 22), .light (.load none (.tmp 2)), none⟩ ::
  .light 1 ⟨(some 23), .light (.mov (.tmp 7)), none⟩ ::
  .light 1 ⟨(some 24), .light (.idxArr 2 2 (.tmp 6) (.tmp 23)), none⟩ ::
  .light 1 ⟨(some 25), .light (.fieldAddr 0 (.tmp 24)), none⟩ ::
  .light 1 ⟨(some 26), .light (.load none (.tmp 25)), none⟩ ::
  .light 1 ⟨(some 27), .light (.idxSl 1 (.tmp 22) (.tmp 26)), none⟩ ::
  .light 1 ⟨(some 28), .light (.load none (.tmp 27)), none⟩ ::
  .light 1 ⟨(some 29), .light (.mov (.tmp 7)), none⟩ ::
  .light 1 ⟨(some 30), .light (.idxArr 2 2 (.tmp 6) (.tmp 29)), none⟩ ::
  .light 1 ⟨(some 31), .light (.fieldAddr 1 (.tmp 30)), none⟩ ::
  .light 1 ⟨(some 32), .light (.load none (.tmp 31)), none⟩ ::
  .light 1 ⟨(some 33), .light (.mov (.tmp 0)), none⟩ ::
  .light 1 ⟨(some 34), .light (.bin .int .and (.tmp 33) (.const (.int .i64 255))), none⟩ ::
  .light 1 ⟨(some 35), .light (.mov (.tmp 0)), none⟩ ::
  .light 0 ⟨(some 8), .alloc (.alloc [(.int .i64 0), (.int .i64 0), (.int .i64 0), (.int .i64 0), (.int .i64 0), (.int .i64 0), (.int .i64 0), (.int .i64 0), (.int .i64 0), (.int .i64 0), (.int .i64 0), (.int .i64 0), (.int .i64 0), (.int .i64 0), (.int .i64 0), (.slice none 0 0)]), none⟩ ::
  .heavy ⟨(some 36), .heavy (.call 9 [(.tmp 28), (.tmp 32), (.tmp 34), (.tmp 35)]), none⟩ [] [] ::
  F8s6t1
theorem F8d6 {E : Env} {A : AHeap} {K : Exit → Env → AHeap → Prop} : wpC Go.Proofs.Try.prog (.draw F8r6 F8p6 [0, 2, 6, 7, 8, 9, 11, 12, 13]) E A K = wpD Go.Proofs.Try.prog [] A.next F8s6 E (A.reserve 1) fun E' A' => K .normal (E'.keep [0, 2, 6, 7, 8, 9, 11, 12, 13]) A' := wpC_res rfl rfl rfl
def F8r7 : List DOper := [
  ⟨(some 39), .light (.mov (.tmp 9)), none⟩]
def F8r8 : List DOper := [
  ⟨(some 40), .light (.load none (.tmp 2)), none⟩,
  ⟨(some 41), .light (.mov (.tmp 7)), none⟩,
  ⟨(some 42), .light (.bin .int .sub (.const (.int .i64 1)) (.tmp 41)), none⟩,
  ⟨(some 43), .light (.idxArr 2 2 (.tmp 6) (.tmp 42)), none⟩,
  ⟨(some 44), .light (.fieldAddr 0 (.tmp 43)), none⟩,
  ⟨(some 45), .light (.load none (.tmp 44)), none⟩,
  ⟨(some 46), .light (.idxSl 1 (.tmp 40) (.tmp 45)), none⟩,
  ⟨(some 47), .light (.load none (.tmp 46)), none⟩,
  ⟨(some 48), .light (.mov (.tmp 7)), none⟩,
  ⟨(some 49), .light (.bin .int .sub (.const (.int .i64 1)) (.tmp 48)), none⟩,
  ⟨(some 50), .light (.idxArr 2 2 (.tmp 6) (.tmp 49)), none⟩,
  ⟨(some 51), .light (.fieldAddr 1 (.tmp 50)), none⟩,
  ⟨(some 52), .light (.load none (.tmp 51)), none⟩,
  ⟨(some 53), .light (.load (some 16) (.tmp 8)), none⟩,
  ⟨(some 54), .light (.mov (.tmp 0)), none⟩,
  ⟨(some 55), .heavy (.call 7 [(.tmp 47), (.tmp 52), (.tmp 53), (.tmp 54)]), none⟩,
  ⟨(some 10), .light (.mov (.tmp 55)), none⟩]
def F8p8 : Plan := ⟨[.light 0, .light 1, .light 2, .light 3, .light 4, .light 5, .light 6, .light 7, .light 8, .light 9, .light 10, .light 11, .light 12, .light 13, .light 14, .heavy 15 [] [], .light 16], [], [], [[], [], [1], [1, 2], [1, 2, 3], [1, 2, 3, 4], [0, 1, 2, 3, 4, 5], [0, 1, 2, 3, 4, 5, 6], [], [8], [8, 9], [8, 9, 10], [8, 9, 10, 11], [], [], [0, 1, 2, 3, 4, 5, 6, 7, 8, 9, 10, 11, 12, 13, 14], [0, 1, 2, 3, 4, 5, 6, 7, 8, 9, 10, 11, 12, 13, 14, 15]]⟩
def F8s8t1 : List RStep := [
  .light 0 ⟨(some 10), .light (.mov (.tmp 55)), none⟩]
def F8s8 : List RStep :=
  .light 0 ⟨(some 40), .light (.load none (.tmp 2)), none⟩ ::
  .light 0 ⟨(some 41), .light (.mov (.tmp 7)), none⟩ ::
  .light 0 ⟨(some 42), .light (.bin .int .sub (.const (.int .i64 1)) (.tmp 41)), none⟩ ::
  .light 0 ⟨(some 43), .light (.idxArr 2 2 (.tmp 6) (.tmp 42)), none⟩ ::
  .light 0 ⟨(some 44), .light (.fieldAddr 0 (.tmp 43)), none⟩ ::
  .light 0 ⟨(some 45), .light (.load none (.tmp 44)), none⟩ ::
  .light 0 ⟨(some 46), .light (.idxSl 1 (.tmp 40) (.tmp 45)), none⟩ ::
  .light 0 ⟨(some 47), .light (.load none (.tmp 46)), none⟩ ::
  .light 0 ⟨(some 48), .light (.mov (.tmp 7)), none⟩ ::
  .light 0 ⟨(some 49), .light (.bin .int .sub (.const (.int .i64 1)) (.tmp 48)), none⟩ ::
  .light 0 ⟨(some 50), .light (.idxArr 2 2 (.tmp 6) (.tmp 49)), none⟩ ::
  .light 0 ⟨(some 51), .light (.fieldAddr 1 (.tmp 50)), none⟩ ::
  .light 0 ⟨(some 52), .light (.load none (.tmp 51)), none⟩ ::
  .light 0 ⟨(some 53), .light (.load (some 16) (.tmp 8)), none⟩ ::
  .light 0 ⟨(some 54), .light (.mov (.tmp 0)), none⟩ ::
  .heavy ⟨(some 55), .heavy (.call 7 [(.tmp 47), (.tmp 52), (.tmp 53), (.tmp 54)]), none⟩ [] [] ::
  F8s8t1
theorem F8d8 {E : Env} {A : AHeap} {K : Exit → Env → AHeap → Prop} : wpC Go.Proofs.Try.prog (.draw F8r8 F8p8 [0, 2, 6, 7, 10, 11, 12, 13]) E A K = wpD Go.Proofs.Try.prog [] A.next F8s8 E (A.reserve 0) fun E' A' => K .normal (E'.keep [0, 2, 6, 7, 10, 11, 12, 13]) A' := wpC_res rfl rfl rfl
def F8r9 : List DOper := [
  ⟨(some 56), .light (.mov (.tmp 10)), none⟩,
  ⟨(some 57), .light (.bin .int .neq (.tmp 56) (.const (.int .i64 0))), none⟩,
  ⟨(some 58), .light (.mov (.tmp 57)), none⟩,
  ⟨(some 59), .light (.mov (.tmp 10)), (some (58, true))⟩,
  ⟨(some 60), .light (.bin .int .neq (.tmp 59) (.const (.int .i64 31))), (some (58, true))⟩,
  ⟨(some 61), .light (.pick (.tmp 58) (.tmp 60) (.const (.bool false))), none⟩]
def F8r10 : List DOper := [
  ⟨(some 4), .light (.mov (.const (.bool false))), none⟩]
def F8c1 : DCode := (.seq (.row F8r10 [4]) .ret)
def F8c2 : DCode := (.cond (.tmp 61) F8c1 .skip [0, 2, 6, 7, 11, 12, 13])
def F8c3 : DCode := (.seq (.row F8r9 [0, 2, 6, 7, 11, 12, 13, 61]) F8c2)
def F8c4 : DCode := (.seq (.draw F8r8 F8p8 [0, 2, 6, 7, 10, 11, 12, 13]) F8c3)
def F8c5 : DCode := (.cond (.tmp 39) F8c4 .skip [0, 2, 6, 7, 11, 12, 13])
def F8c6 : DCode := (.seq (.row F8r7 [0, 2, 6, 7, 8, 11, 12, 13, 39]) F8c5)
def F8c7 : DCode := (.seq (.draw F8r6 F8p6 [0, 2, 6, 7, 8, 9, 11, 12, 13]) F8c6)
def F8r11 : List DOper := [
  ⟨(some 19), .light (.mov (.tmp 7)), none⟩,
  ⟨(some 20), .light (.bin .int .add (.tmp 19) (.const (.int .i64 1))), none⟩,
  ⟨(some 7), .light (.mov (.tmp 20)), none⟩]
def F8c8 : DCode := (.row F8r11 [0, 2, 6, 7, 11, 12, 13])
def F8c9 : DCode := (.seq (.block 3 F8c7 [0, 2, 6, 7, 11, 12, 13]) F8c8)
def F8c10 : DCode := (.seq (.seq (.row F8r5 [0, 2, 6, 7, 11, 12, 13, 18]) F8c0) F8c9)
def F8c11 : DCode := (.loop F8c10)
def F8c12 : DCode := (.block 2 F8c11 [0, 2, 11, 12, 13])
def F8c13 : DCode := (.seq (.row F8r4 [0, 2, 6, 7, 11, 12, 13]) F8c12)
def F8c14 : DCode := (.seq (.row F8r3 [0, 2, 6, 11, 12, 13]) F8c13)
def F8r12 : List DOper := [
  ⟨(some 62), .light (.bin .int .add (.tmp 13) (.const (.int .i64 1))), none⟩,
  ⟨(some 13), .light (.mov (.tmp 62)), none⟩]
def F8c15 : DCode := (.row F8r12 [0, 2, 11, 12, 13])
def F8c16 : DCode := (.seq (.block 1 F8c14 [0, 2, 11, 12, 13]) F8c15)
def F8c17 : DCode := (.seq (.cond (.tmp 14) .skip (.exit 0) [0, 2, 11, 12, 13]) F8c16)
def F8c18 : DCode := (.seq (.row F8r2 [0, 2, 11, 12, 13, 14]) F8c17)
def F8c19 : DCode := (.loop F8c18)
def F8c20 : DCode := (.block 0 F8c19 [])
def F8r13 : List DOper := [
  ⟨(some 4), .light (.mov (.const (.bool true))), none⟩]
def F8c21 : DCode := (.seq (.row F8r13 [4]) .ret)
def F8c22 : DCode := (.seq (.seq (.row F8r1 [0, 2, 11, 12, 13]) F8c20) F8c21)
def F8 : DCode := (.seq (.row F8r0 [0, 1, 2]) F8c22)
def F8a : Ann := (.two (.reg [0, 1, 2] none) (.two (.two (.reg [0, 2, 11, 12, 13] none) (.one (.one (.two (.reg [0, 2, 11, 12, 13, 14] none) (.two (.two .nil .nil [0, 2, 11, 12, 13]) (.two (.one (.two (.reg [0, 2, 6, 11, 12, 13] none) (.two (.reg [0, 2, 6, 7, 11, 12, 13] none) (.one (.one (.two (.two (.reg [0, 2, 6, 7, 11, 12, 13, 18] none) (.two .nil .nil [0, 2, 6, 7, 11, 12, 13]) []) (.two (.one (.two (.reg [0, 2, 6, 7, 8, 9, 11, 12, 13] (some F8p6)) (.two (.reg [0, 2, 6, 7, 8, 11, 12, 13, 39] none) (.two (.two (.reg [0, 2, 6, 7, 10, 11, 12, 13] (some F8p8)) (.two (.reg [0, 2, 6, 7, 11, 12, 13, 61] none) (.two (.two (.reg [4] none) .nil []) .nil [0, 2, 6, 7, 11, 12, 13]) []) []) .nil [0, 2, 6, 7, 11, 12, 13]) []) []) [0, 2, 6, 7, 11, 12, 13]) (.reg [0, 2, 6, 7, 11, 12, 13] none) []) []) []) [0, 2, 11, 12, 13]) []) []) [0, 2, 11, 12, 13]) (.reg [0, 2, 11, 12, 13] none) []) []) []) []) []) []) (.two (.reg [4] none) .nil []) []) [])
theorem F8_comp : Go.Proofs.Try.f8.body.bind (compC Go.Proofs.Try.prog 63 F8a) = some F8 := by kernel_rfl
theorem F8_call {args : List Value} (hn : args.length ≤ 63) {A : AHeap} {K : Value → AHeap → Prop} (h : wpC Go.Proofs.Try.prog F8 (enterE 0 args) A (endK [.tmp 4] K)) : dcall Go.Proofs.Try.prog 8 args A K :=
  dcall_by (fn := Go.Proofs.Try.f8) (ann := F8a) mixed_on Go.Proofs.Try.func8 F8_comp rfl hn h
/-! (*sandglass/tree.Tree).Out -/
def F9r0 : List DOper := [
  ⟨(some 8), .alloc (.alloc [(.int .i64 0), (.int .i64 0), (.int .i64 0), (.int .i64 0), (.int .i64 0), (.int .i64 0), (.int .i64 0), (.int .i64 0), (.int .i64 0), (.int .i64 0), (.int .i64 0), (.int .i64 0), (.int .i64 0), (.int .i64 0), (.int .i64 0), (.slice none 0 0)]), none⟩,
  ⟨(some 9), .light (.mov (.const (.bool false))), none⟩]
def F9r1 : List DOper := [
  ⟨(some 13), .light (.mov (.tmp 0)), none⟩,
  ⟨(some 14), .light (.bin .ptr .eql (.tmp 13) (.const (.pointer none))), none⟩,
  ⟨(some 15), .light (.mov (.tmp 14)), none⟩,
  ⟨(some 16), .light (.mov (.tmp 1)), (some (15, false))⟩,
  ⟨(some 17), .light (.bin .int .lss (.tmp 16) (.const (.int .i64 0))), (some (15, false))⟩,
  ⟨(some 18), .light (.pick (.tmp 15) (.const (.bool true)) (.tmp 17)), none⟩,
  ⟨(some 19), .light (.mov (.tmp 18)), none⟩,
  ⟨(some 20), .light (.mov (.tmp 1)), (some (19, false))⟩,
  ⟨(some 21), .light (.mov (.tmp 0)), (some (19, false))⟩,
  ⟨(some 22), .light (.nilchk (.tmp 21)), (some (19, false))⟩,
  ⟨(some 23), .light (.fieldAddr 6 (.tmp 22)), (some (19, false))⟩,
  ⟨(some 24), .light (.load none (.tmp 23)), (some (19, false))⟩,
  ⟨(some 25), .light (.lenS (.tmp 24)), (some (19, false))⟩,
  ⟨(some 26), .light (.bin .int .geq (.tmp 20) (.tmp 25)), (some (19, false))⟩,
  ⟨(some 27), .light (.pick (.tmp 19) (.const (.bool true)) (.tmp 26)), none⟩]
def F9r2 : List DOper := [
  ⟨(some 28), .light (.build [(.int .i64 0), (.int .i64 0), (.int .i64 0), (.int .i64 0), (.int .i64 0), (.int .i64 0), (.int .i64 0), (.int .i64 0), (.int .i64 0), (.int .i64 0), (.int .i64 0), (.int .i64 0), (.int .i64 0), (.int .i64 0), (.int .i64 0), (.slice none 0 0)] []), none⟩,
  ⟨none, .heavy (.store 16 (.tmp 8) (.tmp 28)), none⟩,
  ⟨(some 9), .light (.mov (.const (.bool false))), none⟩]
def F9c0 : DCode := (.seq (.row F9r2 [8, 9]) .ret)
def F9c1 : DCode := (.cond (.tmp 27) F9c0 .skip [0, 1, 2, 3, 8])
def F9r3t1 : List DOper := [
  ⟨(some 29), .light (.mov (.tmp 32)), none⟩,
  ⟨(some 33), .light (.extract (.tmp 29) 0), none⟩,
  ⟨(some 34), .light (.extract (.tmp 29) 1), none⟩,
  ⟨(some 10), .alloc (.alloc [(.int .i64 0), (.int .i64 0), (.int .i64 0), (.int .i64 0), (.int .i64 0), (.int .i64 0), (.int .i64 0), (.int .i64 0)]), none⟩,
  ⟨none, .heavy (.store 8 (.tmp 10) (.tmp 33)), none⟩,
  ⟨(some 11), .light (.mov (.tmp 34)), none⟩]
def F9r3 : List DOper :=
  ⟨(some 30), .light (.mov (.tmp 0)), none⟩ ::
  ⟨(some 31), .light (.mov (.tmp 3)), none⟩ ::
  ⟨(some 32), .heavy (.call 11 [(.tmp 30), (.tmp 31)]), none⟩ ::
  F9r3t1
def F9r4 : List DOper := [
  ⟨(some 35), .light (.mov (.tmp 11)), none⟩,
  ⟨(some 36), .light (.mov (.tmp 1)), none⟩,
  ⟨(some 37), .light (.idxSl 1 (.tmp 35) (.tmp 36)), none⟩,
  ⟨(some 38), .light (.load none (.tmp 37)), none⟩,
  ⟨(some 39), .light (.bin .int .neq (.tmp 38) (.const (.int .i64 1))), none⟩]
def F9r5 : List DOper := [
  ⟨(some 40), .light (.build [(.int .i64 0), (.int .i64 0), (.int .i64 0), (.int .i64 0), (.int .i64 0), (.int .i64 0), (.int .i64 0), (.int .i64 0), (.int .i64 0), (.int .i64 0), (.int .i64 0), (.int .i64 0), (.int .i64 0), (.int .i64 0), (.int .i64 0), (.slice none 0 0)] []), none⟩,
  ⟨none, .heavy (.store 16 (.tmp 8) (.tmp 40)), none⟩,
  ⟨(some 9), .light (.mov (.const (.bool false))), none⟩]
def F9c2 : DCode := (.seq (.row F9r5 [8, 9]) .ret)
def F9c3 : DCode := (.cond (.tmp 39) F9c2 .skip [0, 1, 2, 8, 10])
def F9r6 : List DOper := [
  ⟨(some 41), .light (.mov (.tmp 0)), none⟩,
  ⟨(some 42), .light (.nilchk (.tmp 41)), none⟩,
  ⟨(some 43), .light (.fieldAddr 0 (.tmp 42)), none⟩,
  ⟨(some 44), .light (.load none (.tmp 43)), none⟩,
  ⟨(some 45), .light (.mov (.tmp 2)), none⟩,
  ⟨(some 46), .light (.mov (.tmp 0)), none⟩,
  ⟨(some 47), .light (.nilchk (.tmp 46)), none⟩,
  ⟨(some 48), .light (.fieldAddr 1 (.tmp 47)), none⟩,
  ⟨(some 49), .light (.fieldAddr 3 (.tmp 48)), none⟩,
  ⟨(some 50), .light (.load none (.tmp 49)), none⟩,
  ⟨(some 51), .light (.mov (.tmp 1)), none⟩,
  ⟨(some 52), .light (.fieldAddr 0 (.tmp 10)), none⟩,
  ⟨(some 53), .light (.load (some 4) (.tmp 52)), none⟩,
  ⟨(some 54), .light (.mov (.tmp 0)), none⟩,
  ⟨(some 55), .light (.nilchk (.tmp 54)), none⟩,
  ⟨(some 56), .light (.fieldAddr 1 (.tmp 55)), none⟩,
  ⟨(some 57), .light (.fieldAddr 3 (.tmp 56)), none⟩,
  ⟨(some 58), .light (.load none (.tmp 57)), none⟩,
  ⟨(some 59), .alloc (.mkslice [(.int .i64 0)] 1 1 [(0, 1, (.tmp 58))]), none⟩,
  ⟨(some 60), .light (.build [(.int .i64 0), (.int .i64 0), (.int .i64 0), (.int .i64 0), (.int .i64 0), (.int .i64 0), (.int .i64 0), (.int .i64 0), (.int .i64 0), (.int .i64 0), (.int .i64 0), (.int .i64 0), (.int .i64 0), (.int .i64 0), (.int .i64 0), (.slice none 0 0)] [(0, 1, (.const (.int .i64 11))), (1, 1, (.tmp 44)), (2, 1, (.tmp 45)), (3, 1, (.tmp 50)), (4, 1, (.tmp 51)), (10, 4, (.tmp 53)), (15, 1, (.tmp 59))]), none⟩,
  ⟨(some 12), .alloc (.alloc [(.int .i64 0), (.int .i64 0), (.int .i64 0), (.int .i64 0), (.int .i64 0), (.int .i64 0), (.int .i64 0), (.int .i64 0), (.int .i64 0), (.int .i64 0), (.int .i64 0), (.int .i64 0), (.int .i64 0), (.int .i64 0), (.int .i64 0), (.slice none 0 0)]), none⟩,
  ⟨none, .heavy (.store 16 (.tmp 12) (.tmp 60)), none⟩]
def F9p6 : Plan := ⟨[.light 0, .light 1, .light 2, .light 3, .light 4, .light 5, .light 6, .light 7, .light 8, .light 9, .light 10, .light 11, .light 12, .light 13, .light 14, .light 15, .light 16, .light 17, .light 18, .light 19, .light 20, .heavy 21 [18, 20] []], [18, 20], [], [[], [0], [0, 1], [0, 1, 2], [], [], [5], [5, 6], [5, 6, 7], [5, 6, 7, 8], [], [], [11], [], [13], [13, 14], [13, 14, 15], [13, 14, 15, 16], [13, 14, 15, 16, 17], [0, 1, 2, 3, 4, 5, 6, 7, 8, 9, 10, 11, 12, 13, 14, 15, 16, 17, 18], [], [0, 1, 2, 3, 4, 5, 6, 7, 8, 9, 10, 11, 12, 13, 14, 15, 16, 17, 18, 19, 20]]⟩
def F9s6 : List RStep := [
  .light 2 ⟨(some 41), .light (.mov (.tmp 0)), none⟩,
  .light 2 ⟨(some 42), .light (.nilchk (.tmp 41)), none⟩,
  .light 2 ⟨(some 43), .light (.fieldAddr 0 (.tmp 42)), none⟩,
  .light 2 ⟨(some 44), .light (.load none (.tmp 43)), none⟩,
  .light 2 ⟨(some 45), .light (.mov (.tmp 2)), none⟩,
  .light 2 ⟨(some 46), .light (.mov (.tmp 0)), none⟩,
  .light 2 ⟨(some 47), .light (.nilchk (.tmp 46)), none⟩,
  .light 2 ⟨(some 48), .light (.fieldAddr 1 (.tmp 47)), none⟩,
  .light 2 ⟨(some 49), .light (.fieldAddr 3 (.tmp 48)), none⟩,
  .light 2 ⟨(some 50), .light (.load none (.tmp 49)), none⟩,
  .light 2 ⟨(some 51), .light (.mov (.tmp 1)), none⟩,
  .light 2 ⟨(some 52), .light (.fieldAddr 0 (.tmp 10)), none⟩,
  .light 2 ⟨(some 53), .light (.load (some 4) (.tmp 52)), none⟩,
  .light 2 ⟨(some 54), .light (.mov (.tmp 0)), none⟩,
  .light 2 ⟨(some 55), .light (.nilchk (.tmp 54)), none⟩,
  .light 2 ⟨(some 56), .light (.fieldAddr 1 (.tmp 55)), none⟩,
  .light 2 ⟨(some 57), .light (.fieldAddr 3 (.tmp 56)), none⟩,
  .light 2 ⟨(some 58), .light (.load none (.tmp 57)), none⟩,
  .light 0 ⟨(some 59), .alloc (.mkslice [(.int .i64 0)] 1 1 [(0, 1, (.tmp 58))]), none⟩,
  .light 2 ⟨(some 60), .light (.build [(.int .i64 0), (.int .i64 0), (.int .i64 0), (.int .i64 0), (.int .i64 0), (.int .i64 0), (.int .i64 0), (.int .i64 0), (.int .i64 0), (.int .i64 0), (.int .i64 0), (.int .i64 0), (.int .i64 0), (.int .i64 0), (.int .i64 0), (.slice none 0 0)] [(0, 1, (.const (.int .i64 11))), (1, 1, (.tmp 44)), (2, 1, (.tmp 45)), (3, 1, (.tmp 50)), (4, 1, (.tmp 51)), (10, 4, (.tmp 53)), (15, 1, (.tmp 59))]), none⟩,
  .light 1 ⟨(some 12), .alloc (.alloc [(.int .i64 0), (.int .i64 0), (.int .i64 0), (.int .i64 0), (.int .i64 0), (.int .i64 0), (.int .i64 0), (.int .i64 0), (.int .i64 0), (.int .i64 0), (.int .i64 0), (.int .i64 0), (.int .i64 0), (.int .i64 0), (.int .i64 0), (.slice none 0 0)]), none⟩,
  .heavy ⟨none, .heavy (.store 16 (.tmp 12) (.tmp 60)), none⟩ [(0, ⟨(some 59), .alloc (.mkslice [(.int .i64 0)] 1 1 [(0, 1, (.tmp 58))]), none⟩), (1, ⟨(some 12), .alloc (.alloc [(.int .i64 0), (.int .i64 0), (.int .i64 0), (.int .i64 0), (.int .i64 0), (.int .i64 0), (.int .i64 0), (.int .i64 0), (.int .i64 0), (.int .i64 0), (.int .i64 0), (.int .i64 0), (.int .i64 0), (.int .i64 0), (.int .i64 0), (.slice none 0 0)]), none⟩)] []]
theorem F9d6 {E : Env} {A : AHeap} {K : Exit → Env → AHeap → Prop} : wpC Go.Proofs.Try.prog (.draw F9r6 F9p6 [0, 8, 10, 12]) E A K = wpD Go.Proofs.Try.prog [] A.next F9s6 E (A.reserve 2) fun E' A' => K .normal (E'.keep [0, 8, 10, 12]) A' := wpC_res rfl rfl rfl
def F9r7 : List DOper := [
  ⟨(some 61), .light (.fieldAddr 7 (.tmp 10)), none⟩,
  ⟨(some 62), .light (.load none (.tmp 61)), none⟩,
  ⟨(some 63), .light (.bin .int .geq (.tmp 62) (.const (.int .i64 0))), none⟩]
def F9r8 : List DOper := [
  ⟨(some 64), .light (.fieldAddr 4 (.tmp 10)), none⟩,
  ⟨(some 65), .light (.load none (.tmp 64)), none⟩,
  ⟨(some 66), .light (.bin .int .add (.tmp 65) (.const (.int .i64 1))), none⟩,
  ⟨(some 67), .light (.fieldAddr 14 (.tmp 12)), none⟩,
  ⟨none, .heavy (.store 1 (.tmp 67) (.tmp 66)), none⟩]
def F9r9 : List DOper := [
  ⟨(some 68), .light (.mov (.tmp 0)), none⟩,
  ⟨(some 69), .light (.nilchk (.tmp 68)), none⟩,
  ⟨(some 70), .light (.fieldAddr 8 (.tmp 69)), none⟩,
  ⟨(some 71), .light (.load none (.tmp 70)), none⟩,
  ⟨(some 72), .light (.fieldAddr 7 (.tmp 10)), none⟩,
  ⟨(some 73), .light (.load none (.tmp 72)), none⟩,
  ⟨(some 74), .light (.idxSl 1 (.tmp 71) (.tmp 73)), none⟩,
  ⟨(some 75), .light (.load none (.tmp 74)), none⟩,
  ⟨(some 76), .heavy (.call 15 [(.tmp 75)]), none⟩,
  ⟨(some 77), .light (.mov (.tmp 0)), none⟩,
  ⟨(some 78), .light (.nilchk (.tmp 77)), none⟩,
  ⟨(some 79), .light (.fieldAddr 1 (.tmp 78)), none⟩,
  ⟨(some 80), .light (.fieldAddr 3 (.tmp 79)), none⟩,
  ⟨(some 81), .light (.load none (.tmp 80)), none⟩,
  ⟨(some 82), .alloc (.mkslice [(.int .i64 0)] 1 1 [(0, 1, (.tmp 81))]), none⟩,
  ⟨(some 83), .heavy (.append 1 8 (.tmp 76) (.tmp 82)), none⟩,
  ⟨(some 84), .light (.fieldAddr 15 (.tmp 12)), none⟩,
  ⟨none, .heavy (.store 1 (.tmp 84) (.tmp 83)), none⟩]
def F9p9 : Plan := ⟨[.light 0, .light 1, .light 2, .light 3, .light 4, .light 5, .light 6, .light 7, .light 9, .light 10, .light 11, .light 12, .light 13, .light 14, .heavy 8 [] [13], .heavy 15 [14] [], .light 16, .heavy 17 [] []], [14], [], [[], [0], [0, 1], [0, 1, 2], [], [4], [0, 1, 2, 3, 4, 5], [0, 1, 2, 3, 4, 5, 6], [0, 1, 2, 3, 4, 5, 6, 7], [], [9], [9, 10], [9, 10, 11], [9, 10, 11, 12], [9, 10, 11, 12, 13], [0, 1, 2, 3, 4, 5, 6, 7, 8, 9, 10, 11, 12, 13, 14], [0, 1, 2, 3, 4, 5, 6, 7, 8, 9, 10, 11, 12, 13, 14, 15], [0, 1, 2, 3, 4, 5, 6, 7, 8, 9, 10, 11, 12, 13, 14, 15, 16]]⟩
def F9k9_1 : List DOper := [⟨(some 81), .light (.load none (.tmp 80)), none⟩]
def F9s9t1 : List RStep := [
  .heavy ⟨(some 83), .heavy (.append 1 8 (.tmp 76) (.tmp 82)), none⟩ [(0, ⟨(some 82), .alloc (.mkslice [(.int .i64 0)] 1 1 [(0, 1, (.tmp 81))]), none⟩)] [],
  .light 1 ⟨(some 84), .light (.fieldAddr 15 (.tmp 12)), none⟩,
  .heavy ⟨none, .heavy (.store 1 (.tmp 84) (.tmp 83)), none⟩ [] []]
def F9s9 : List RStep :=
  .light 1 ⟨(some 68), .light (.mov (.tmp 0)), none⟩ ::
  .light 1 ⟨(some 69), .light (.nilchk (.tmp 68)), none⟩ ::
  .light 1 ⟨(some 70), .light (.fieldAddr 8 (.tmp 69)), none⟩ ::
  .light 1 ⟨(some 71), .light (.load none (.tmp 70)), none⟩ ::
  .light 1 ⟨(some 72), .light (.fieldAddr 7 (.tmp 10)), none⟩ ::
  .light 1 ⟨(some 73), .light (.load none (.tmp 72)), none⟩ ::
  .light 1 ⟨(some 74), .light (.idxSl 1 (.tmp 71) (.tmp 73)), none⟩ ::
  .light 1 ⟨(some 75), .light (.load none (.tmp 74)), none⟩ ::
  .light 1 ⟨(some 77), .light (.mov (.tmp 0)), none⟩ ::
  .light 1 ⟨(some 78), .light (.nilchk (.tmp 77)), none⟩ ::
  .light 1 ⟨(some 79), .light (.fieldAddr 1 (.tmp 78)), none⟩ ::
  .light 1 ⟨(some 80), .light (.fieldAddr 3 (.tmp 79)), none⟩ ::
  .light 1 ⟨(some 81), .light (.load none (.tmp 80)), none⟩ ::
  .light 0 ⟨(some 82), .alloc (.mkslice [(.int .i64 0)] 1 1 [(0, 1, (.tmp 81))]), none⟩ ::
  .heavy ⟨(some 76), .heavy (.call 15 [(.tmp 75)]), none⟩ [] F9k9_1 ::
  F9s9t1
theorem F9d9 {E : Env} {A : AHeap} {K : Exit → Env → AHeap → Prop} : wpC Go.Proofs.Try.prog (.draw F9r9 F9p9 [8, 12]) E A K = wpD Go.Proofs.Try.prog [] A.next F9s9 E (A.reserve 1) fun E' A' => K .normal (E'.keep [8, 12]) A' := wpC_res rfl rfl rfl
def F9c4 : DCode := (.draw F9r9 F9p9 [8, 12])
def F9c5 : DCode := (.seq (.row F9r8 [0, 8, 10, 12]) F9c4)
def F9c6 : DCode := (.cond (.tmp 63) F9c5 .skip [8, 12])
def F9r10 : List DOper := [
  ⟨(some 85), .light (.load (some 16) (.tmp 12)), none⟩,
  ⟨(some 86), .light (.load (some 16) (.tmp 12)), none⟩,
  ⟨(some 87), .heavy (.call 13 [(.tmp 86)]), none⟩,
  ⟨(some 88), .light (.bin .int .eql (.tmp 87) (.const (.int .i64 0))), none⟩,
  ⟨none, .heavy (.store 16 (.tmp 8) (.tmp 85)), none⟩,
  ⟨(some 9), .light (.mov (.tmp 88)), none⟩]
def F9p10 : Plan := ⟨[.light 0, .light 1, .heavy 2 [] [0], .light 3, .heavy 4 [] [], .light 5], [], [], [[], [], [1], [1, 2], [0, 1, 2], [0, 1, 2, 3, 4]]⟩
def F9k10_1 : List DOper := [⟨(some 85), .light (.load (some 16) (.tmp 12)), none⟩]
def F9s10t1 : List RStep := [
  .light 0 ⟨(some 88), .light (.bin .int .eql (.tmp 87) (.const (.int .i64 0))), none⟩,
  .heavy ⟨none, .heavy (.store 16 (.tmp 8) (.tmp 85)), none⟩ [] [],
  .light 0 ⟨(some 9), .light (.mov (.tmp 88)), none⟩]
def F9s10 : List RStep :=
  .light 0 ⟨(some 85), .light (.load (some 16) (.tmp 12)), none⟩ ::
  .light 0 ⟨(some 86), .light (.load (some 16) (.tmp 12)), none⟩ ::
  .heavy ⟨(some 87), .heavy (.call 13 [(.tmp 86)]), none⟩ [] F9k10_1 ::
  F9s10t1
theorem F9d10 {E : Env} {A : AHeap} {K : Exit → Env → AHeap → Prop} : wpC Go.Proofs.Try.prog (.draw F9r10 F9p10 [8, 9]) E A K = wpD Go.Proofs.Try.prog [] A.next F9s10 E (A.reserve 0) fun E' A' => K .normal (E'.keep [8, 9]) A' := wpC_res rfl rfl rfl
def F9c7 : DCode := (.seq (.draw F9r10 F9p10 [8, 9]) .ret)
def F9c8 : DCode := (.seq (.seq (.row F9r7 [0, 8, 10, 12, 63]) F9c6) F9c7)
def F9c9 : DCode := (.seq (.draw F9r6 F9p6 [0, 8, 10, 12]) F9c8)
def F9c10 : DCode := (.seq (.seq (.row F9r4 [0, 1, 2, 8, 10, 39]) F9c3) F9c9)
def F9c11 : DCode := (.seq (.row F9r3 [0, 1, 2, 8, 10, 11]) F9c10)
def F9c12 : DCode := (.seq (.seq (.row F9r1 [0, 1, 2, 3, 8, 27]) F9c1) F9c11)
def F9 : DCode := (.seq (.row F9r0 [0, 1, 2, 3, 8]) F9c12)
def F9a : Ann := (.two (.reg [0, 1, 2, 3, 8] none) (.two (.two (.reg [0, 1, 2, 3, 8, 27] none) (.two (.two (.reg [8, 9] none) .nil []) .nil [0, 1, 2, 3, 8]) []) (.two (.reg [0, 1, 2, 8, 10, 11] none) (.two (.two (.reg [0, 1, 2, 8, 10, 39] none) (.two (.two (.reg [8, 9] none) .nil []) .nil [0, 1, 2, 8, 10]) []) (.two (.reg [0, 8, 10, 12] (some F9p6)) (.two (.two (.reg [0, 8, 10, 12, 63] none) (.two (.two (.reg [0, 8, 10, 12] none) (.reg [8, 12] (some F9p9)) []) .nil [8, 12]) []) (.two (.reg [8, 9] (some F9p10)) .nil []) []) []) []) []) []) [])
theorem F9_comp : Go.Proofs.Try.f9.body.bind (compC Go.Proofs.Try.prog 89 F9a) = some F9 := by kernel_rfl
theorem F9_call {args : List Value} (hn : args.length ≤ 89) {A : AHeap} {K : Value → AHeap → Prop} (h : wpC Go.Proofs.Try.prog F9 (enterE 0 args) A (endK [.cell 8 (some 16), .tmp 9] K)) : dcall Go.Proofs.Try.prog 9 args A K :=
  dcall_by (fn := Go.Proofs.Try.f9) (ann := F9a) mixed_on Go.Proofs.Try.func9 F9_comp rfl hn h
/-! sandglass/best.Cmp -/
def F10r0 : List DOper := [
  ⟨(some 2), .alloc (.box (.tmp 0)), none⟩,
  ⟨(some 3), .alloc (.box (.tmp 1)), none⟩,
  ⟨(some 4), .light (.mov (.const (.int .i64 0))), none⟩]
def F10r1 : List DOper := [
  ⟨(some 5), .light (.fieldAddr 0 (.tmp 2)), none⟩,
  ⟨(some 6), .light (.load none (.tmp 5)), none⟩,
  ⟨(some 7), .light (.fieldAddr 0 (.tmp 3)), none⟩,
  ⟨(some 8), .light (.load none (.tmp 7)), none⟩,
  ⟨(some 9), .heavy (.call 17 [(.tmp 6), (.tmp 8)]), none⟩,
  ⟨(some 10), .light (.fieldAddr 1 (.tmp 2)), none⟩,
  ⟨(some 11), .light (.load none (.tmp 10)), none⟩,
  ⟨(some 12), .light (.fieldAddr 1 (.tmp 3)), none⟩,
  ⟨(some 13), .light (.load none (.tmp 12)), none⟩,
  ⟨(some 14), .heavy (.call 17 [(.tmp 11), (.tmp 13)]), none⟩,
  ⟨(some 15), .light (.fieldAddr 2 (.tmp 2)), none⟩,
  ⟨(some 16), .light (.load none (.tmp 15)), none⟩,
  ⟨(some 17), .light (.fieldAddr 2 (.tmp 3)), none⟩,
  ⟨(some 18), .light (.load none (.tmp 17)), none⟩,
  ⟨(some 19), .heavy (.call 17 [(.tmp 16), (.tmp 18)]), none⟩,
  ⟨(some 20), .light (.fieldAddr 3 (.tmp 2)), none⟩,
  ⟨(some 21), .light (.load none (.tmp 20)), none⟩,
  ⟨(some 22), .light (.fieldAddr 3 (.tmp 3)), none⟩,
  ⟨(some 23), .light (.load none (.tmp 22)), none⟩,
  ⟨(some 24), .heavy (.call 17 [(.tmp 21), (.tmp 23)]), none⟩,
  ⟨(some 25), .alloc (.mkslice [(.int .i64 0), (.int .i64 0), (.int .i64 0), (.int .i64 0)] 1 4 [(0, 1, (.tmp 9)), (1, 1, (.tmp 14)), (2, 1, (.tmp 19)), (3, 1, (.tmp 24))]), none⟩,
  ⟨(some 26), .heavy (.call 16 [(.tmp 25)]), none⟩,
  ⟨(some 4), .light (.mov (.tmp 26)), none⟩]
def F10p1 : Plan := ⟨[.light 0, .light 1, .light 2, .light 3, .light 5, .light 6, .light 7, .light 8, .light 10, .light 11, .light 12, .light 13, .light 15, .light 16, .light 17, .light 18, .heavy 4 [] [18, 16, 13, 11, 8, 6], .heavy 9 [] [18, 16, 13, 11], .heavy 14 [] [18, 16], .heavy 19 [] [], .light 20, .heavy 21 [20] [], .light 22], [20], [], [[], [0], [], [2], [0, 1, 2, 3], [], [5], [], [7], [0, 1, 2, 3, 4, 5, 6, 7, 8], [], [10], [], [12], [0, 1, 2, 3, 4, 5, 6, 7, 8, 9, 10, 11, 12, 13], [], [15], [], [17], [0, 1, 2, 3, 4, 5, 6, 7, 8, 9, 10, 11, 12, 13, 14, 15, 16, 17, 18], [0, 1, 2, 3, 4, 5, 6, 7, 8, 9, 10, 11, 12, 13, 14, 15, 16, 17, 18, 19], [0, 1, 2, 3, 4, 5, 6, 7, 8, 9, 10, 11, 12, 13, 14, 15, 16, 17, 18, 19, 20], [0, 1, 2, 3, 4, 5, 6, 7, 8, 9, 10, 11, 12, 13, 14, 15, 16, 17, 18, 19, 20, 21]]⟩
def F10k1_1 : List DOper := [⟨(some 23), .light (.load none (.tmp 22)), none⟩, ⟨(some 21), .light (.load none (.tmp 20)), none⟩, ⟨(some 18), .light (.load none (.tmp 17)), none⟩, ⟨(some 16), .light (.load none (.tmp 15)), none⟩, ⟨(some 13), .light (.load none (.tmp 12)), none⟩, ⟨(some 11), .light (.load none (.tmp 10)), none⟩]
def F10k1_2 : List DOper := [⟨(some 23), .light (.load none (.tmp 22)), none⟩, ⟨(some 21), .light (.load none (.tmp 20)), none⟩, ⟨(some 18), .light (.load none (.tmp 17)), none⟩, ⟨(some 16), .light (.load none (.tmp 15)), none⟩]
def F10k1_3 : List DOper := [⟨(some 23), .light (.load none (.tmp 22)), none⟩, ⟨(some 21), .light (.load none (.tmp 20)), none⟩]
def F10s1t5 : List RStep := [
  .light 1 ⟨(some 4), .light (.mov (.tmp 26)), none⟩]
def F10s1t4 : List RStep :=
  .light 0 ⟨(some 25), .alloc (.mkslice [(.int .i64 0), (.int .i64 0), (.int .i64 0), (.int .i64 0)] 1 4 [(0, 1, (.tmp 9)), (1, 1, (.tmp 14)), (2, 1, (.tmp 19)), (3, 1, (.tmp 24))]), none⟩ ::
  .heavy ⟨(some 26), .heavy (.call 16 [(.tmp 25)]), none⟩ [(0, ⟨(some 25), .alloc (.mkslice [(.int .i64 0), (.int .i64 0), (.int .i64 0), (.int .i64 0)] 1 4 [(0, 1, (.tmp 9)), (1, 1, (.tmp 14)), (2, 1, (.tmp 19)), (3, 1, (.tmp 24))]), none⟩)] [] ::
  F10s1t5
def F10s1t3 : List RStep :=
  .heavy ⟨(some 24), .heavy (.call 17 [(.tmp 21), (.tmp 23)]), none⟩ [] [] ::
  F10s1t4
def F10s1t2 : List RStep :=
  .heavy ⟨(some 19), .heavy (.call 17 [(.tmp 16), (.tmp 18)]), none⟩ [] F10k1_3 ::
  F10s1t3
def F10s1t1 : List RStep :=
  .heavy ⟨(some 14), .heavy (.call 17 [(.tmp 11), (.tmp 13)]), none⟩ [] F10k1_2 ::
  F10s1t2
def F10s1 : List RStep :=
  .light 1 ⟨(some 5), .light (.fieldAddr 0 (.tmp 2)), none⟩ ::
  .light 1 ⟨(some 6), .light (.load none (.tmp 5)), none⟩ ::
  .light 1 ⟨(some 7), .light (.fieldAddr 0 (.tmp 3)), none⟩ ::
  .light 1 ⟨(some 8), .light (.load none (.tmp 7)), none⟩ ::
  .light 1 ⟨(some 10), .light (.fieldAddr 1 (.tmp 2)), none⟩ ::
  .light 1 ⟨(some 11), .light (.load none (.tmp 10)), none⟩ ::
  .light 1 ⟨(some 12), .light (.fieldAddr 1 (.tmp 3)), none⟩ ::
  .light 1 ⟨(some 13), .light (.load none (.tmp 12)), none⟩ ::
  .light 1 ⟨(some 15), .light (.fieldAddr 2 (.tmp 2)), none⟩ ::
  .light 1 ⟨(some 16), .light (.load none (.tmp 15)), none⟩ ::
  .light 1 ⟨(some 17), .light (.fieldAddr 2 (.tmp 3)), none⟩ ::
  .light 1 ⟨(some 18), .light (.load none (.tmp 17)), none⟩ ::
  .light 1 ⟨(some 20), .light (.fieldAddr 3 (.tmp 2)), none⟩ ::
  .light 1 ⟨(some 21), .light (.load none (.tmp 20)), none⟩ ::
  .light 1 ⟨(some 22), .light (.fieldAddr 3 (.tmp 3)), none⟩ ::
  .light 1 ⟨(some 23), .light (.load none (.tmp 22)), none⟩ ::
  .heavy ⟨(some 9), .heavy (.call 17 [(.tmp 6), (.tmp 8)]), none⟩ [] F10k1_1 ::
  F10s1t1
theorem F10d1 {E : Env} {A : AHeap} {K : Exit → Env → AHeap → Prop} : wpC Go.Proofs.Try.prog (.draw F10r1 F10p1 [4]) E A K = wpD Go.Proofs.Try.prog [] A.next F10s1 E (A.reserve 1) fun E' A' => K .normal (E'.keep [4]) A' := wpC_res rfl rfl rfl
def F10c0 : DCode := (.seq (.draw F10r1 F10p1 [4]) .ret)
def F10 : DCode := (.seq (.row F10r0 [2, 3]) F10c0)
def F10a : Ann := (.two (.reg [2, 3] none) (.two (.reg [4] (some F10p1)) .nil []) [])
theorem F10_comp : Go.Proofs.Try.f10.body.bind (compC Go.Proofs.Try.prog 27 F10a) = some F10 := by kernel_rfl
theorem F10_call {args : List Value} (hn : args.length ≤ 27) {A : AHeap} {K : Value → AHeap → Prop} (h : wpC Go.Proofs.Try.prog F10 (enterE 0 args) A (endK [.tmp 4] K)) : dcall Go.Proofs.Try.prog 10 args A K :=
  dcall_by (fn := Go.Proofs.Try.f10) (ann := F10a) mixed_on Go.Proofs.Try.func10 F10_comp rfl hn h
/-! (*sandglass/tree.Tree).Best -/
def F11r0 : List DOper := [
  ⟨(some 4), .alloc (.alloc [(.int .i64 0), (.int .i64 0), (.int .i64 0), (.int .i64 0), (.int .i64 0), (.int .i64 0), (.int .i64 0), (.int .i64 0)]), none⟩,
  ⟨(some 5), .light (.mov (.const (.slice none 0 0))), none⟩]
def F11r1 : List DOper := [
  ⟨(some 6), .light (.mov (.tmp 0)), none⟩,
  ⟨(some 7), .light (.bin .ptr .eql (.tmp 6) (.const (.pointer none))), none⟩]
def F11r2 : List DOper := [
  ⟨(some 8), .light (.build [(.int .i64 0), (.int .i64 0), (.int .i64 0), (.int .i64 0), (.int .i64 0), (.int .i64 0), (.int .i64 0), (.int .i64 0)] [(7, 1, (.const (.int .i64 (-1))))]), none⟩,
  ⟨none, .heavy (.store 8 (.tmp 4) (.tmp 8)), none⟩,
  ⟨(some 5), .light (.mov (.const (.slice none 0 0))), none⟩]
def F11c0 : DCode := (.seq (.row F11r2 [4, 5]) .ret)
def F11c1 : DCode := (.cond (.tmp 7) F11c0 .skip [0, 1, 4])
def F11r3 : List DOper := [
  ⟨(some 9), .light (.mov (.tmp 0)), none⟩,
  ⟨(some 10), .light (.nilchk (.tmp 9)), none⟩,
  ⟨(some 11), .light (.fieldAddr 1 (.tmp 10)), none⟩,
  ⟨(some 12), .light (.load (some 4) (.tmp 11)), none⟩,
  ⟨(some 13), .light (.mov (.tmp 0)), none⟩,
  ⟨(some 14), .light (.mov (.tmp 1)), none⟩,
  ⟨(some 15), .heavy (.call 19 [(.tmp 13), (.tmp 14)]), none⟩,
  ⟨(some 16), .heavy (.call 18 [(.tmp 12), (.tmp 15)]), none⟩,
  ⟨(some 17), .light (.extract (.tmp 16) 0), none⟩,
  ⟨(some 18), .light (.extract (.tmp 16) 1), none⟩,
  ⟨none, .heavy (.store 8 (.tmp 4) (.tmp 17)), none⟩,
  ⟨(some 5), .light (.mov (.tmp 18)), none⟩]
def F11p3 : Plan := ⟨[.light 0, .light 1, .light 2, .light 3, .light 4, .light 5, .heavy 6 [] [3], .heavy 7 [] [], .light 8, .light 9, .heavy 10 [] [], .light 11], [], [], [[], [0], [0, 1], [0, 1, 2], [], [], [4, 5], [0, 1, 2, 3, 4, 5, 6], [0, 1, 2, 3, 4, 5, 6, 7], [0, 1, 2, 3, 4, 5, 6, 7], [0, 1, 2, 3, 4, 5, 6, 7, 8, 9], [0, 1, 2, 3, 4, 5, 6, 7, 8, 9, 10]]⟩
def F11k3_1 : List DOper := [⟨(some 12), .light (.load (some 4) (.tmp 11)), none⟩]
def F11s3t2 : List RStep := [
  .light 0 ⟨(some 17), .light (.extract (.tmp 16) 0), none⟩,
  .light 0 ⟨(some 18), .light (.extract (.tmp 16) 1), none⟩,
  .heavy ⟨none, .heavy (.store 8 (.tmp 4) (.tmp 17)), none⟩ [] [],
  .light 0 ⟨(some 5), .light (.mov (.tmp 18)), none⟩]
def F11s3t1 : List RStep :=
  .heavy ⟨(some 16), .heavy (.call 18 [(.tmp 12), (.tmp 15)]), none⟩ [] [] ::
  F11s3t2
def F11s3 : List RStep :=
  .light 0 ⟨(some 9), .light (.mov (.tmp 0)), none⟩ ::
  .light 0 ⟨(some 10), .light (.nilchk (.tmp 9)), none⟩ ::
  .light 0 ⟨(some 11), .light (.fieldAddr 1 (.tmp 10)), none⟩ ::
  .light 0 ⟨(some 12), .light (.load (some 4) (.tmp 11)), none⟩ ::
  .light 0 ⟨(some 13), .light (.mov (.tmp 0)), none⟩ ::
  .light 0 ⟨(some 14), .light (.mov (.tmp 1)), none⟩ ::
  .heavy ⟨(some 15), .heavy (.call 19 [(.tmp 13), (.tmp 14)]), none⟩ [] F11k3_1 ::
  F11s3t1
theorem F11d3 {E : Env} {A : AHeap} {K : Exit → Env → AHeap → Prop} : wpC Go.Proofs.Try.prog (.draw F11r3 F11p3 [4, 5]) E A K = wpD Go.Proofs.Try.prog [] A.next F11s3 E (A.reserve 0) fun E' A' => K .normal (E'.keep [4, 5]) A' := wpC_res rfl rfl rfl
def F11c2 : DCode := (.seq (.draw F11r3 F11p3 [4, 5]) .ret)
def F11c3 : DCode := (.seq (.seq (.row F11r1 [0, 1, 4, 7]) F11c1) F11c2)
def F11 : DCode := (.seq (.row F11r0 [0, 1, 4]) F11c3)
def F11a : Ann := (.two (.reg [0, 1, 4] none) (.two (.two (.reg [0, 1, 4, 7] none) (.two (.two (.reg [4, 5] none) .nil []) .nil [0, 1, 4]) []) (.two (.reg [4, 5] (some F11p3)) .nil []) []) [])
theorem F11_comp : Go.Proofs.Try.f11.body.bind (compC Go.Proofs.Try.prog 19 F11a) = some F11 := by kernel_rfl
theorem F11_call {args : List Value} (hn : args.length ≤ 19) {A : AHeap} {K : Value → AHeap → Prop} (h : wpC Go.Proofs.Try.prog F11 (enterE 0 args) A (endK [.cell 4 (some 8), .tmp 5] K)) : dcall Go.Proofs.Try.prog 11 args A K :=
  dcall_by (fn := Go.Proofs.Try.f11) (ann := F11a) mixed_on Go.Proofs.Try.func11 F11_comp rfl hn h
/-! (*sandglass/tree.Tree).Root -/
def F12r0 : List DOper := [
  ⟨(some 4), .light (.mov (.const (.bool false))), none⟩]
def F12r1t1 : List DOper := [
  ⟨(some 7), .light (.mov (.tmp 10)), none⟩,
  ⟨(some 11), .light (.extract (.tmp 7) 0), none⟩,
  ⟨(some 12), .light (.extract (.tmp 7) 1), none⟩,
  ⟨(some 5), .alloc (.alloc [(.int .i64 0), (.int .i64 0), (.int .i64 0), (.int .i64 0), (.int .i64 0), (.int .i64 0), (.int .i64 0), (.int .i64 0)]), none⟩,
  ⟨none, .heavy (.store 8 (.tmp 5) (.tmp 11)), none⟩,
  ⟨(some 6), .light (.mov (.tmp 12)), none⟩]
def F12r1 : List DOper :=
  ⟨(some 8), .light (.mov (.tmp 0)), none⟩ ::
  ⟨(some 9), .light (.mov (.tmp 1)), none⟩ ::
  ⟨(some 10), .heavy (.call 11 [(.tmp 8), (.tmp 9)]), none⟩ ::
  F12r1t1
def F12r2 : List DOper := [
  ⟨(some 13), .light (.mov (.tmp 0)), none⟩,
  ⟨(some 14), .light (.bin .ptr .neq (.tmp 13) (.const (.pointer none))), none⟩,
  ⟨(some 15), .light (.mov (.tmp 14)), none⟩,
  ⟨(some 16), .light (.fieldAddr 7 (.tmp 5)), (some (15, true))⟩,
  ⟨(some 17), .light (.load none (.tmp 16)), (some (15, true))⟩,
  ⟨(some 18), .light (.bin .int .lss (.tmp 17) (.const (.int .i64 0))), (some (15, true))⟩,
  ⟨(some 19), .light (.pick (.tmp 15) (.tmp 18) (.const (.bool false))), none⟩,
  ⟨(some 4), .light (.mov (.tmp 19)), none⟩]
def F12c0 : DCode := (.seq (.row F12r2 [4]) .ret)
def F12c1 : DCode := (.seq (.row F12r1 [0, 5]) F12c0)
def F12 : DCode := (.seq (.row F12r0 [0, 1]) F12c1)
def F12a : Ann := (.two (.reg [0, 1] none) (.two (.reg [0, 5] none) (.two (.reg [4] none) .nil []) []) [])
theorem F12_comp : Go.Proofs.Try.f12.body.bind (compC Go.Proofs.Try.prog 20 F12a) = some F12 := by kernel_rfl
theorem F12_call {args : List Value} (hn : args.length ≤ 20) {A : AHeap} {K : Value → AHeap → Prop} (h : wpC Go.Proofs.Try.prog F12 (enterE 0 args) A (endK [.tmp 4] K)) : dcall Go.Proofs.Try.prog 12 args A K :=
  dcall_by (fn := Go.Proofs.Try.f12) (ann := F12a) mixed_on Go.Proofs.Try.func12 F12_comp rfl hn h
/-! (sandglass/ptp.Msg).Check -/
def F13r0 : List DOper := [
  ⟨(some 1), .alloc (.box (.tmp 0)), none⟩,
  ⟨(some 2), .light (.mov (.const (.int .i64 0))), none⟩]
def F13r1 : List DOper := [
  ⟨(some 6), .light (.fieldAddr 0 (.tmp 1)), none⟩,
  ⟨(some 7), .light (.load none (.tmp 6)), none⟩,
  ⟨(some 8), .light (.bin .int .eql (.tmp 7) (.const (.int .i64 2))), none⟩,
  ⟨(some 9), .light (.mov (.tmp 8)), none⟩,
  ⟨(some 10), .light (.fieldAddr 0 (.tmp 1)), (some (9, false))⟩,
  ⟨(some 11), .light (.load none (.tmp 10)), (some (9, false))⟩,
  ⟨(some 12), .light (.bin .int .eql (.tmp 11) (.const (.int .i64 0))), (some (9, false))⟩,
  ⟨(some 13), .light (.pick (.tmp 9) (.const (.bool true)) (.tmp 12)), none⟩,
  ⟨(some 14), .light (.mov (.tmp 13)), none⟩,
  ⟨(some 15), .light (.fieldAddr 0 (.tmp 1)), (some (14, false))⟩,
  ⟨(some 16), .light (.load none (.tmp 15)), (some (14, false))⟩,
  ⟨(some 17), .light (.bin .int .eql (.tmp 16) (.const (.int .i64 3))), (some (14, false))⟩,
  ⟨(some 18), .light (.pick (.tmp 14) (.const (.bool true)) (.tmp 17)), none⟩,
  ⟨(some 19), .light (.mov (.tmp 18)), none⟩,
  ⟨(some 20), .light (.fieldAddr 0 (.tmp 1)), (some (19, false))⟩,
  ⟨(some 21), .light (.load none (.tmp 20)), (some (19, false))⟩,
  ⟨(some 22), .light (.bin .int .eql (.tmp 21) (.const (.int .i64 8))), (some (19, false))⟩,
  ⟨(some 23), .light (.pick (.tmp 19) (.const (.bool true)) (.tmp 22)), none⟩,
  ⟨(some 24), .light (.mov (.tmp 23)), none⟩,
  ⟨(some 25), .light (.fieldAddr 0 (.tmp 1)), (some (24, false))⟩,
  ⟨(some 26), .light (.load none (.tmp 25)), (some (24, false))⟩,
  ⟨(some 27), .light (.bin .int .eql (.tmp 26) (.const (.int .i64 10))), (some (24, false))⟩,
  ⟨(some 28), .light (.pick (.tmp 24) (.const (.bool true)) (.tmp 27)), none⟩,
  ⟨(some 29), .light (.mov (.tmp 28)), none⟩,
  ⟨(some 30), .light (.fieldAddr 0 (.tmp 1)), (some (29, false))⟩,
  ⟨(some 31), .light (.load none (.tmp 30)), (some (29, false))⟩,
  ⟨(some 32), .light (.bin .int .eql (.tmp 31) (.const (.int .i64 11))), (some (29, false))⟩,
  ⟨(some 33), .light (.pick (.tmp 29) (.const (.bool true)) (.tmp 32)), none⟩,
  ⟨(some 3), .light (.mov (.tmp 33)), none⟩]
def F13r2 : List DOper := [
  ⟨(some 34), .light (.fieldAddr 0 (.tmp 1)), none⟩,
  ⟨(some 35), .light (.load none (.tmp 34)), none⟩,
  ⟨(some 36), .light (.bin .int .eql (.tmp 35) (.const (.int .i64 3))), none⟩,
  ⟨(some 37), .light (.mov (.tmp 36)), none⟩,
  ⟨(some 38), .light (.fieldAddr 0 (.tmp 1)), (some (37, false))⟩,
  ⟨(some 39), .light (.load none (.tmp 38)), (some (37, false))⟩,
  ⟨(some 40), .light (.bin .int .eql (.tmp 39) (.const (.int .i64 10))), (some (37, false))⟩,
  ⟨(some 41), .light (.pick (.tmp 37) (.const (.bool true)) (.tmp 40)), none⟩,
  ⟨(some 4), .light (.mov (.tmp 41)), none⟩]
def F13r3 : List DOper := [
  ⟨(some 42), .light (.fieldAddr 10 (.tmp 1)), none⟩,
  ⟨(some 43), .light (.load (some 4) (.tmp 42)), none⟩,
  ⟨(some 5), .alloc (.alloc [(.int .i64 0), (.int .i64 0), (.int .i64 0), (.int .i64 0)]), none⟩,
  ⟨none, .heavy (.store 4 (.tmp 5) (.tmp 43)), none⟩]
def F13r4 : List DOper := [
  ⟨(some 45), .light (.mov (.tmp 3)), none⟩,
  ⟨(some 46), .light (.un .not (.tmp 45)), none⟩,
  ⟨(some 44), .light (.mov (.tmp 46)), none⟩]
def F13r5 : List DOper := [
  ⟨(some 2), .light (.mov (.const (.int .i64 23))), none⟩]
def F13c0 : DCode := (.seq (.row F13r5 [2]) .ret)
def F13r6t3 : List DOper := [
  ⟨(some 71), .light (.un .not (.tmp 70)), (some (64, false))⟩,
  ⟨(some 72), .light (.pick (.tmp 64) (.const (.bool true)) (.tmp 71)), none⟩,
  ⟨(some 47), .light (.mov (.tmp 72)), none⟩]
def F13r6t2 : List DOper :=
  ⟨(some 62), .light (.un .not (.tmp 61)), (some (53, false))⟩ ::
  ⟨(some 63), .light (.pick (.tmp 53) (.const (.bool true)) (.tmp 62)), none⟩ ::
  ⟨(some 64), .light (.mov (.tmp 63)), none⟩ ::
  ⟨(some 65), .light (.fieldAddr 3 (.tmp 1)), (some (64, false))⟩ ::
  ⟨(some 66), .light (.load none (.tmp 65)), (some (64, false))⟩ ::
  ⟨(some 67), .light (.fieldAddr 7 (.tmp 1)), (some (64, false))⟩ ::
  ⟨(some 68), .light (.load none (.tmp 67)), (some (64, false))⟩ ::
  ⟨(some 69), .alloc (.mkslice [(.int .i64 0), (.int .i64 0)] 1 2 [(0, 1, (.tmp 66)), (1, 1, (.tmp 68))]), (some (64, false))⟩ ::
  ⟨(some 70), .heavy (.call 20 [(.const (.int .i64 281474976710655)), (.tmp 69)]), (some (64, false))⟩ ::
  F13r6t3
def F13r6t1 : List DOper :=
  ⟨(some 52), .light (.un .not (.tmp 51)), none⟩ ::
  ⟨(some 53), .light (.mov (.tmp 52)), none⟩ ::
  ⟨(some 54), .light (.fieldAddr 2 (.tmp 1)), (some (53, false))⟩ ::
  ⟨(some 55), .light (.load none (.tmp 54)), (some (53, false))⟩ ::
  ⟨(some 56), .light (.fieldAddr 4 (.tmp 1)), (some (53, false))⟩ ::
  ⟨(some 57), .light (.load none (.tmp 56)), (some (53, false))⟩ ::
  ⟨(some 58), .light (.fieldAddr 8 (.tmp 1)), (some (53, false))⟩ ::
  ⟨(some 59), .light (.load none (.tmp 58)), (some (53, false))⟩ ::
  ⟨(some 60), .alloc (.mkslice [(.int .i64 0), (.int .i64 0), (.int .i64 0)] 1 3 [(0, 1, (.tmp 55)), (1, 1, (.tmp 57)), (2, 1, (.tmp 59))]), (some (53, false))⟩ ::
  ⟨(some 61), .heavy (.call 20 [(.const (.int .i64 65535)), (.tmp 60)]), (some (53, false))⟩ ::
  F13r6t2
def F13r6 : List DOper :=
  ⟨(some 48), .light (.fieldAddr 1 (.tmp 1)), none⟩ ::
  ⟨(some 49), .light (.load none (.tmp 48)), none⟩ ::
  ⟨(some 50), .alloc (.mkslice [(.int .i64 0)] 1 1 [(0, 1, (.tmp 49))]), none⟩ ::
  ⟨(some 51), .heavy (.call 20 [(.const (.int .i64 127)), (.tmp 50)]), none⟩ ::
  F13r6t1
def F13r7 : List DOper := [
  ⟨(some 2), .light (.mov (.const (.int .i64 1))), none⟩]
def F13c1 : DCode := (.seq (.row F13r7 [2]) .ret)
def F13r8t2 : List DOper := [
  ⟨(some 90), .light (.un .not (.tmp 89)), (some (85, false))⟩,
  ⟨(some 91), .light (.pick (.tmp 85) (.const (.bool true)) (.tmp 90)), none⟩,
  ⟨(some 73), .light (.mov (.tmp 91)), none⟩]
def F13r8t1 : List DOper :=
  ⟨(some 84), .light (.un .not (.tmp 83)), none⟩ ::
  ⟨(some 85), .light (.mov (.tmp 84)), none⟩ ::
  ⟨(some 86), .light (.fieldAddr 3 (.tmp 5)), (some (85, false))⟩ ::
  ⟨(some 87), .light (.load none (.tmp 86)), (some (85, false))⟩ ::
  ⟨(some 88), .alloc (.mkslice [(.int .i64 0)] 1 1 [(0, 1, (.tmp 87))]), (some (85, false))⟩ ::
  ⟨(some 89), .heavy (.call 20 [(.const (.int .i64 281474976710655)), (.tmp 88)]), (some (85, false))⟩ ::
  F13r8t2
def F13r8 : List DOper :=
  ⟨(some 74), .light (.fieldAddr 0 (.tmp 5)), none⟩ ::
  ⟨(some 75), .light (.load none (.tmp 74)), none⟩ ::
  ⟨(some 76), .light (.fieldAddr 1 (.tmp 5)), none⟩ ::
  ⟨(some 77), .light (.load none (.tmp 76)), none⟩ ::
  ⟨(some 78), .light (.fieldAddr 2 (.tmp 5)), none⟩ ::
  ⟨(some 79), .light (.load none (.tmp 78)), none⟩ ::
  ⟨(some 80), .light (.fieldAddr 14 (.tmp 1)), none⟩ ::
  ⟨(some 81), .light (.load none (.tmp 80)), none⟩ ::
  ⟨(some 82), .alloc (.mkslice [(.int .i64 0), (.int .i64 0), (.int .i64 0), (.int .i64 0)] 1 4 [(0, 1, (.tmp 75)), (1, 1, (.tmp 77)), (2, 1, (.tmp 79)), (3, 1, (.tmp 81))]), none⟩ ::
  ⟨(some 83), .heavy (.call 20 [(.const (.int .i64 255)), (.tmp 82)]), none⟩ ::
  F13r8t1
def F13r9 : List DOper := [
  ⟨(some 2), .light (.mov (.const (.int .i64 1))), none⟩]
def F13c2 : DCode := (.seq (.row F13r9 [2]) .ret)
def F13r10 : List DOper := [
  ⟨(some 93), .light (.mov (.tmp 4)), none⟩,
  ⟨(some 94), .light (.un .not (.tmp 93)), none⟩,
  ⟨(some 95), .light (.mov (.tmp 94)), none⟩,
  ⟨(some 96), .light (.fieldAddr 7 (.tmp 1)), (some (95, true))⟩,
  ⟨(some 97), .light (.load none (.tmp 96)), (some (95, true))⟩,
  ⟨(some 98), .light (.bin .int .neq (.tmp 97) (.const (.int .i64 0))), (some (95, true))⟩,
  ⟨(some 99), .light (.mov (.tmp 98)), (some (95, true))⟩,
  ⟨(some 100), .light (.fieldAddr 8 (.tmp 1)), (some (99, false))⟩,
  ⟨(some 101), .light (.load none (.tmp 100)), (some (99, false))⟩,
  ⟨(some 102), .light (.bin .int .neq (.tmp 101) (.const (.int .i64 0))), (some (99, false))⟩,
  ⟨(some 103), .light (.pick (.tmp 99) (.const (.bool true)) (.tmp 102)), (some (95, true))⟩,
  ⟨(some 104), .light (.pick (.tmp 95) (.tmp 103) (.const (.bool false))), none⟩,
  ⟨(some 105), .light (.mov (.tmp 104)), none⟩,
  ⟨(some 106), .light (.mov (.tmp 4)), (some (105, false))⟩,
  ⟨(some 107), .light (.un .not (.tmp 106)), (some (105, false))⟩,
  ⟨(some 108), .light (.mov (.tmp 107)), (some (105, false))⟩,
  ⟨(some 109), .light (.fieldAddr 0 (.tmp 1)), (some (108, true))⟩,
  ⟨(some 110), .light (.load none (.tmp 109)), (some (108, true))⟩,
  ⟨(some 111), .light (.bin .int .neq (.tmp 110) (.const (.int .i64 8))), (some (108, true))⟩,
  ⟨(some 112), .light (.pick (.tmp 108) (.tmp 111) (.const (.bool false))), (some (105, false))⟩,
  ⟨(some 113), .light (.mov (.tmp 112)), (some (105, false))⟩,
  ⟨(some 114), .light (.fieldAddr 6 (.tmp 1)), (some (113, true))⟩,
  ⟨(some 115), .light (.load none (.tmp 114)), (some (113, true))⟩,
  ⟨(some 116), .light (.bin .int .neq (.tmp 115) (.const (.int .i64 0))), (some (113, true))⟩,
  ⟨(some 117), .light (.pick (.tmp 113) (.tmp 116) (.const (.bool false))), (some (105, false))⟩,
  ⟨(some 118), .light (.pick (.tmp 105) (.const (.bool true)) (.tmp 117)), none⟩,
  ⟨(some 119), .light (.mov (.tmp 118)), none⟩,
  ⟨(some 120), .light (.fieldAddr 0 (.tmp 1)), (some (119, false))⟩,
  ⟨(some 121), .light (.load none (.tmp 120)), (some (119, false))⟩,
  ⟨(some 122), .light (.bin .int .neq (.tmp 121) (.const (.int .i64 8))), (some (119, false))⟩,
  ⟨(some 123), .light (.mov (.tmp 122)), (some (119, false))⟩,
  ⟨(some 124), .light (.fieldAddr 9 (.tmp 1)), (some (123, true))⟩,
  ⟨(some 125), .light (.load none (.tmp 124)), (some (123, true))⟩,
  ⟨(some 126), .light (.bin .int .neq (.tmp 125) (.const (.int .i64 0))), (some (123, true))⟩,
  ⟨(some 127), .light (.pick (.tmp 123) (.tmp 126) (.const (.bool false))), (some (119, false))⟩,
  ⟨(some 128), .light (.pick (.tmp 119) (.const (.bool true)) (.tmp 127)), none⟩,
  ⟨(some 92), .light (.mov (.tmp 128)), none⟩]
def F13r11 : List DOper := [
  ⟨(some 2), .light (.mov (.const (.int .i64 1))), none⟩]
def F13c3 : DCode := (.seq (.row F13r11 [2]) .ret)
def F13r12 : List DOper := [
  ⟨(some 130), .light (.fieldAddr 0 (.tmp 1)), none⟩,
  ⟨(some 131), .light (.load none (.tmp 130)), none⟩,
  ⟨(some 132), .light (.bin .int .neq (.tmp 131) (.const (.int .i64 11))), none⟩,
  ⟨(some 133), .light (.mov (.tmp 132)), none⟩,
  ⟨(some 134), .light (.load (some 4) (.tmp 5)), (some (133, true))⟩,
  ⟨(some 135), .light (.build [(.int .i64 0), (.int .i64 0), (.int .i64 0), (.int .i64 0)] []), (some (133, true))⟩,
  ⟨(some 136), .light (.bin (.agg 4) .neq (.tmp 134) (.tmp 135)), (some (133, true))⟩,
  ⟨(some 137), .light (.mov (.tmp 136)), (some (133, true))⟩,
  ⟨(some 138), .light (.fieldAddr 14 (.tmp 1)), (some (137, false))⟩,
  ⟨(some 139), .light (.load none (.tmp 138)), (some (137, false))⟩,
  ⟨(some 140), .light (.bin .int .neq (.tmp 139) (.const (.int .i64 0))), (some (137, false))⟩,
  ⟨(some 141), .light (.pick (.tmp 137) (.const (.bool true)) (.tmp 140)), (some (133, true))⟩,
  ⟨(some 142), .light (.mov (.tmp 141)), (some (133, true))⟩,
  ⟨(some 143), .light (.fieldAddr 15 (.tmp 1)), (some (142, false))⟩,
  ⟨(some 144), .light (.load none (.tmp 143)), (some (142, false))⟩,
  ⟨(some 145), .light (.lenS (.tmp 144)), (some (142, false))⟩,
  ⟨(some 146), .light (.bin .int .neq (.tmp 145) (.const (.int .i64 0))), (some (142, false))⟩,
  ⟨(some 147), .light (.pick (.tmp 142) (.const (.bool true)) (.tmp 146)), (some (133, true))⟩,
  ⟨(some 148), .light (.pick (.tmp 133) (.tmp 147) (.const (.bool false))), none⟩,
  ⟨(some 129), .light (.mov (.tmp 148)), none⟩]
def F13r13 : List DOper := [
  ⟨(some 2), .light (.mov (.const (.int .i64 1))), none⟩]
def F13c4 : DCode := (.seq (.row F13r13 [2]) .ret)
def F13r14 : List DOper := [
  ⟨(some 150), .light (.fieldAddr 15 (.tmp 1)), none⟩,
  ⟨(some 151), .light (.load none (.tmp 150)), none⟩,
  ⟨(some 152), .light (.lenS (.tmp 151)), none⟩,
  ⟨(some 153), .light (.bin .int .gtr (.tmp 152) (.const (.int .i64 32))), none⟩,
  ⟨(some 149), .light (.mov (.tmp 153)), none⟩]
def F13r15 : List DOper := [
  ⟨(some 2), .light (.mov (.const (.int .i64 4))), none⟩]
def F13c5 : DCode := (.seq (.row F13r15 [2]) .ret)
def F13c6 : DCode := (.cond (.tmp 149) F13c5 .skip [1])
def F13c7 : DCode := (.seq (.row F13r14 [1, 149]) F13c6)
def F13c8 : DCode := (.cond (.tmp 129) F13c4 F13c7 [1])
def F13c9 : DCode := (.seq (.row F13r12 [1, 129]) F13c8)
def F13c10 : DCode := (.cond (.tmp 92) F13c3 F13c9 [1])
def F13c11 : DCode := (.seq (.row F13r10 [1, 5, 92]) F13c10)
def F13c12 : DCode := (.cond (.tmp 73) F13c2 F13c11 [1])
def F13c13 : DCode := (.seq (.row F13r8 [1, 4, 5, 73]) F13c12)
def F13c14 : DCode := (.cond (.tmp 47) F13c1 F13c13 [1])
def F13c15 : DCode := (.seq (.row F13r6 [1, 4, 5, 47]) F13c14)
def F13c16 : DCode := (.cond (.tmp 44) F13c0 F13c15 [1])
def F13c17 : DCode := (.seq (.row F13r4 [1, 4, 5, 44]) F13c16)
def F13r16t1 : List DOper := [
  ⟨(some 157), .light (.un .not (.tmp 156)), none⟩]
def F13r16 : List DOper :=
  ⟨(some 154), .light (.fieldAddr 15 (.tmp 1)), none⟩ ::
  ⟨(some 155), .light (.load none (.tmp 154)), none⟩ ::
  ⟨(some 156), .heavy (.call 20 [(.const (.int .i64 281474976710655)), (.tmp 155)]), none⟩ ::
  F13r16t1
def F13r17 : List DOper := [
  ⟨(some 2), .light (.mov (.const (.int .i64 1))), none⟩]
def F13c18 : DCode := (.seq (.row F13r17 [2]) .ret)
def F13c19 : DCode := (.cond (.tmp 157) F13c18 .skip [])
def F13r18 : List DOper := [
  ⟨(some 2), .light (.mov (.const (.int .i64 0))), none⟩]
def F13c20 : DCode := (.seq (.row F13r18 [2]) .ret)
def F13c21 : DCode := (.seq (.seq (.row F13r16 [157]) F13c19) F13c20)
def F13c22 : DCode := (.seq (.block 0 F13c17 [1]) F13c21)
def F13c23 : DCode := (.seq (.row F13r3 [1, 3, 4, 5]) F13c22)
def F13c24 : DCode := (.seq (.row F13r2 [1, 3, 4]) F13c23)
def F13c25 : DCode := (.seq (.row F13r1 [1, 3]) F13c24)
def F13 : DCode := (.seq (.row F13r0 [1]) F13c25)
def F13a : Ann := (.two (.reg [1] none) (.two (.reg [1, 3] none) (.two (.reg [1, 3, 4] none) (.two (.reg [1, 3, 4, 5] none) (.two (.one (.two (.reg [1, 4, 5, 44] none) (.two (.two (.reg [2] none) .nil []) (.two (.reg [1, 4, 5, 47] none) (.two (.two (.reg [2] none) .nil []) (.two (.reg [1, 4, 5, 73] none) (.two (.two (.reg [2] none) .nil []) (.two (.reg [1, 5, 92] none) (.two (.two (.reg [2] none) .nil []) (.two (.reg [1, 129] none) (.two (.two (.reg [2] none) .nil []) (.two (.reg [1, 149] none) (.two (.two (.reg [2] none) .nil []) .nil [1]) []) [1]) []) [1]) []) [1]) []) [1]) []) [1]) []) [1]) (.two (.two (.reg [157] none) (.two (.two (.reg [2] none) .nil []) .nil []) []) (.two (.reg [2] none) .nil []) []) []) []) []) []) [])
theorem F13_comp : Go.Proofs.Try.f13.body.bind (compC Go.Proofs.Try.prog 158 F13a) = some F13 := by kernel_rfl
theorem F13_call {args : List Value} (hn : args.length ≤ 158) {A : AHeap} {K : Value → AHeap → Prop} (h : wpC Go.Proofs.Try.prog F13 (enterE 0 args) A (endK [.tmp 2] K)) : dcall Go.Proofs.Try.prog 13 args A K :=
  dcall_by (fn := Go.Proofs.Try.f13) (ann := F13a) mixed_on Go.Proofs.Try.func13 F13_comp rfl hn h
/-! slices.Contains[[]int,int] -/
def F14r0 : List DOper := [
  ⟨(some 4), .light (.mov (.const (.bool false))), none⟩]
def F14r1t1 : List DOper := [
  ⟨(some 8), .light (.bin .int .geq (.tmp 7) (.const (.int .i64 0))), none⟩,
  ⟨(some 4), .light (.mov (.tmp 8)), none⟩]
def F14r1 : List DOper :=
  ⟨(some 5), .light (.mov (.tmp 0)), none⟩ ::
  ⟨(some 6), .light (.mov (.tmp 1)), none⟩ ::
  ⟨(some 7), .heavy (.call 21 [(.tmp 5), (.tmp 6)]), none⟩ ::
  F14r1t1
def F14c0 : DCode := (.seq (.row F14r1 [4]) .ret)
def F14 : DCode := (.seq (.row F14r0 [0, 1]) F14c0)
def F14a : Ann := (.two (.reg [0, 1] none) (.two (.reg [4] none) .nil []) [])
theorem F14_comp : Go.Proofs.Try.f14.body.bind (compC Go.Proofs.Try.prog 9 F14a) = some F14 := by kernel_rfl
theorem F14_call {args : List Value} (hn : args.length ≤ 9) {A : AHeap} {K : Value → AHeap → Prop} (h : wpC Go.Proofs.Try.prog F14 (enterE 0 args) A (endK [.tmp 4] K)) : dcall Go.Proofs.Try.prog 14 args A K :=
  dcall_by (fn := Go.Proofs.Try.f14) (ann := F14a) mixed_on Go.Proofs.Try.func14 F14_comp rfl hn h
/-! slices.Clone[[]int,int] -/
def F15r0 : List DOper := [
  ⟨(some 2), .light (.mov (.const (.slice none 0 0))), none⟩]
def F15r1 : List DOper := [
  ⟨(some 3), .light (.mov (.tmp 0)), none⟩,
  ⟨(some 4), .light (.bin .slice .eql (.tmp 3) (.const (.slice none 0 0))), none⟩]
def F15r2 : List DOper := [
  ⟨(some 2), .light (.mov (.const (.slice none 0 0))), none⟩]
def F15c0 : DCode := (.seq (.row F15r2 [2]) .ret)
def F15c1 : DCode := (.cond (.tmp 4) F15c0 .skip [0])
def F15r3 : List DOper := [
  ⟨(some 5), .alloc (.mkslice [] 1 0 []), none⟩,
  ⟨(some 6), .light (.mov (.tmp 0)), none⟩,
  ⟨(some 7), .heavy (.append 1 8 (.tmp 5) (.tmp 6)), none⟩,
  ⟨(some 2), .light (.mov (.tmp 7)), none⟩]
def F15c2 : DCode := (.seq (.row F15r3 [2]) .ret)
def F15c3 : DCode := (.seq (.seq (.row F15r1 [0, 4]) F15c1) F15c2)
def F15 : DCode := (.seq (.row F15r0 [0]) F15c3)
def F15a : Ann := (.two (.reg [0] none) (.two (.two (.reg [0, 4] none) (.two (.two (.reg [2] none) .nil []) .nil [0]) []) (.two (.reg [2] none) .nil []) []) [])
theorem F15_comp : Go.Proofs.Try.f15.body.bind (compC Go.Proofs.Try.prog 8 F15a) = some F15 := by kernel_rfl
theorem F15_call {args : List Value} (hn : args.length ≤ 8) {A : AHeap} {K : Value → AHeap → Prop} (h : wpC Go.Proofs.Try.prog F15 (enterE 0 args) A (endK [.tmp 2] K)) : dcall Go.Proofs.Try.prog 15 args A K :=
  dcall_by (fn := Go.Proofs.Try.f15) (ann := F15a) mixed_on Go.Proofs.Try.func15 F15_comp rfl hn h
/-! cmp.Or[int] -/
def F16r0 : List DOper := [
  ⟨(some 2), .light (.mov (.const (.int .i64 0))), none⟩]
def F16r1 : List DOper := [
  ⟨(some 3), .light (.mov (.const (.int .i64 0))), none⟩]
def F16r2 : List DOper := [
  ⟨(some 6), .light (.mov (.tmp 0)), none⟩,
  ⟨(some 7), .light (.lenS (.tmp 6)), none⟩,
  ⟨(some 8), .light (.mov (.const (.int .i64 0))), none⟩]
def F16r3 : List DOper := [
  ⟨(some 9), .light (.bin .int .lss (.tmp 8) (.tmp 7)), none⟩]
def F16r4 : List DOper := [
  ⟨(some 10), .light (.idxSl 1 (.tmp 6) (.tmp 8)), none⟩,
  ⟨(some 11), .light (.load none (.tmp 10)), none⟩,
  ⟨(some 5), .light (.mov (.tmp 11)), none⟩]
def F16r5 : List DOper := [
  ⟨(some 12), .light (.mov (.tmp 5)), none⟩,
  ⟨(some 13), .light (.mov (.tmp 3)), none⟩,
  ⟨(some 14), .light (.bin .int .neq (.tmp 12) (.tmp 13)), none⟩]
def F16r6 : List DOper := [
  ⟨(some 15), .light (.mov (.tmp 5)), none⟩,
  ⟨(some 2), .light (.mov (.tmp 15)), none⟩]
def F16c0 : DCode := (.seq (.row F16r6 [2]) .ret)
def F16c1 : DCode := (.cond (.tmp 14) F16c0 .skip [3, 6, 7, 8])
def F16c2 : DCode := (.seq (.row F16r5 [3, 5, 6, 7, 8, 14]) F16c1)
def F16c3 : DCode := (.seq (.row F16r4 [3, 5, 6, 7, 8]) F16c2)
def F16r7 : List DOper := [
  ⟨(some 16), .light (.bin .int .add (.tmp 8) (.const (.int .i64 1))), none⟩,
  ⟨(some 8), .light (.mov (.tmp 16)), none⟩]
def F16c4 : DCode := (.row F16r7 [3, 6, 7, 8])
def F16c5 : DCode := (.seq (.block 1 F16c3 [3, 6, 7, 8]) F16c4)
def F16c6 : DCode := (.seq (.cond (.tmp 9) .skip (.exit 0) [3, 6, 7, 8]) F16c5)
def F16c7 : DCode := (.seq (.row F16r3 [3, 6, 7, 8, 9]) F16c6)
def F16c8 : DCode := (.loop F16c7)
def F16c9 : DCode := (.block 0 F16c8 [3])
def F16r8 : List DOper := [
  ⟨(some 17), .light (.mov (.tmp 3)), none⟩,
  ⟨(some 2), .light (.mov (.tmp 17)), none⟩]
def F16c10 : DCode := (.seq (.row F16r8 [2]) .ret)
def F16c11 : DCode := (.seq (.seq (.row F16r2 [3, 6, 7, 8]) F16c9) F16c10)
def F16c12 : DCode := (.seq (.row F16r1 [0, 3]) F16c11)
def F16 : DCode := (.seq (.row F16r0 [0]) F16c12)
def F16a : Ann := (.two (.reg [0] none) (.two (.reg [0, 3] none) (.two (.two (.reg [3, 6, 7, 8] none) (.one (.one (.two (.reg [3, 6, 7, 8, 9] none) (.two (.two .nil .nil [3, 6, 7, 8]) (.two (.one (.two (.reg [3, 5, 6, 7, 8] none) (.two (.reg [3, 5, 6, 7, 8, 14] none) (.two (.two (.reg [2] none) .nil []) .nil [3, 6, 7, 8]) []) []) [3, 6, 7, 8]) (.reg [3, 6, 7, 8] none) []) []) []) []) [3]) []) (.two (.reg [2] none) .nil []) []) []) [])
theorem F16_comp : Go.Proofs.Try.f16.body.bind (compC Go.Proofs.Try.prog 18 F16a) = some F16 := by kernel_rfl
theorem F16_call {args : List Value} (hn : args.length ≤ 18) {A : AHeap} {K : Value → AHeap → Prop} (h : wpC Go.Proofs.Try.prog F16 (enterE 0 args) A (endK [.tmp 2] K)) : dcall Go.Proofs.Try.prog 16 args A K :=
  dcall_by (fn := Go.Proofs.Try.f16) (ann := F16a) mixed_on Go.Proofs.Try.func16 F16_comp rfl hn h
/-! cmp.Compare[int] -/
def F17r0 : List DOper := [
  ⟨(some 4), .light (.mov (.const (.int .i64 0))), none⟩]
def F17r1t1 : List DOper := [
  ⟨(some 5), .light (.mov (.tmp 8)), none⟩]
def F17r1 : List DOper :=
  ⟨(some 7), .light (.mov (.tmp 0)), none⟩ ::
  ⟨(some 8), .heavy (.call 22 [(.tmp 7)]), none⟩ ::
  F17r1t1
def F17r2t1 : List DOper := [
  ⟨(some 6), .light (.mov (.tmp 10)), none⟩]
def F17r2 : List DOper :=
  ⟨(some 9), .light (.mov (.tmp 1)), none⟩ ::
  ⟨(some 10), .heavy (.call 22 [(.tmp 9)]), none⟩ ::
  F17r2t1
def F17r3 : List DOper := [
  ⟨(some 11), .light (.mov (.tmp 5)), none⟩]
def F17r4 : List DOper := [
  ⟨(some 12), .light (.mov (.tmp 6)), none⟩]
def F17r5 : List DOper := [
  ⟨(some 4), .light (.mov (.const (.int .i64 0))), none⟩]
def F17c0 : DCode := (.seq (.row F17r5 [4]) .ret)
def F17c1 : DCode := (.cond (.tmp 12) F17c0 .skip [])
def F17r6 : List DOper := [
  ⟨(some 4), .light (.mov (.const (.int .i64 (-1)))), none⟩]
def F17c2 : DCode := (.seq (.row F17r6 [4]) .ret)
def F17c3 : DCode := (.seq (.seq (.row F17r4 [12]) F17c1) F17c2)
def F17c4 : DCode := (.cond (.tmp 11) F17c3 .skip [0, 1, 6])
def F17r7 : List DOper := [
  ⟨(some 13), .light (.mov (.tmp 6)), none⟩]
def F17r8 : List DOper := [
  ⟨(some 4), .light (.mov (.const (.int .i64 1))), none⟩]
def F17c5 : DCode := (.seq (.row F17r8 [4]) .ret)
def F17c6 : DCode := (.cond (.tmp 13) F17c5 .skip [0, 1])
def F17r9 : List DOper := [
  ⟨(some 14), .light (.mov (.tmp 0)), none⟩,
  ⟨(some 15), .light (.mov (.tmp 1)), none⟩,
  ⟨(some 16), .light (.bin .int .lss (.tmp 14) (.tmp 15)), none⟩]
def F17r10 : List DOper := [
  ⟨(some 4), .light (.mov (.const (.int .i64 (-1)))), none⟩]
def F17c7 : DCode := (.seq (.row F17r10 [4]) .ret)
def F17c8 : DCode := (.cond (.tmp 16) F17c7 .skip [0, 1])
def F17r11 : List DOper := [
  ⟨(some 17), .light (.mov (.tmp 0)), none⟩,
  ⟨(some 18), .light (.mov (.tmp 1)), none⟩,
  ⟨(some 19), .light (.bin .int .gtr (.tmp 17) (.tmp 18)), none⟩]
def F17r12 : List DOper := [
  ⟨(some 4), .light (.mov (.const (.int .i64 1))), none⟩]
def F17c9 : DCode := (.seq (.row F17r12 [4]) .ret)
def F17c10 : DCode := (.cond (.tmp 19) F17c9 .skip [])
def F17r13 : List DOper := [
  ⟨(some 4), .light (.mov (.const (.int .i64 0))), none⟩]
def F17c11 : DCode := (.seq (.row F17r13 [4]) .ret)
def F17c12 : DCode := (.seq (.seq (.row F17r11 [19]) F17c10) F17c11)
def F17c13 : DCode := (.seq (.seq (.row F17r9 [0, 1, 16]) F17c8) F17c12)
def F17c14 : DCode := (.seq (.seq (.row F17r7 [0, 1, 13]) F17c6) F17c13)
def F17c15 : DCode := (.seq (.seq (.row F17r3 [0, 1, 6, 11]) F17c4) F17c14)
def F17c16 : DCode := (.seq (.row F17r2 [0, 1, 5, 6]) F17c15)
def F17c17 : DCode := (.seq (.row F17r1 [0, 1, 5]) F17c16)
def F17 : DCode := (.seq (.row F17r0 [0, 1]) F17c17)
def F17a : Ann := (.two (.reg [0, 1] none) (.two (.reg [0, 1, 5] none) (.two (.reg [0, 1, 5, 6] none) (.two (.two (.reg [0, 1, 6, 11] none) (.two (.two (.two (.reg [12] none) (.two (.two (.reg [4] none) .nil []) .nil []) []) (.two (.reg [4] none) .nil []) []) .nil [0, 1, 6]) []) (.two (.two (.reg [0, 1, 13] none) (.two (.two (.reg [4] none) .nil []) .nil [0, 1]) []) (.two (.two (.reg [0, 1, 16] none) (.two (.two (.reg [4] none) .nil []) .nil [0, 1]) []) (.two (.two (.reg [19] none) (.two (.two (.reg [4] none) .nil []) .nil []) []) (.two (.reg [4] none) .nil []) []) []) []) []) []) []) [])
theorem F17_comp : Go.Proofs.Try.f17.body.bind (compC Go.Proofs.Try.prog 20 F17a) = some F17 := by kernel_rfl
theorem F17_call {args : List Value} (hn : args.length ≤ 20) {A : AHeap} {K : Value → AHeap → Prop} (h : wpC Go.Proofs.Try.prog F17 (enterE 0 args) A (endK [.tmp 4] K)) : dcall Go.Proofs.Try.prog 17 args A K :=
  dcall_by (fn := Go.Proofs.Try.f17) (ann := F17a) mixed_on Go.Proofs.Try.func17 F17_comp rfl hn h
/-! sandglass/best.Choose -/
def F18r0 : List DOper := [
  ⟨(some 2), .alloc (.box (.tmp 0)), none⟩,
  ⟨(some 4), .alloc (.alloc [(.int .i64 0), (.int .i64 0), (.int .i64 0), (.int .i64 0), (.int .i64 0), (.int .i64 0), (.int .i64 0), (.int .i64 0)]), none⟩,
  ⟨(some 5), .light (.mov (.const (.slice none 0 0))), none⟩]
def F18r1 : List DOper := [
  ⟨(some 15), .light (.load (some 4) (.tmp 2)), none⟩,
  ⟨(some 16), .light (.fieldAddr 3 (.tmp 2)), none⟩,
  ⟨(some 17), .light (.load none (.tmp 16)), none⟩,
  ⟨(some 18), .light (.build [(.int .i64 0), (.int .i64 0), (.int .i64 0), (.int .i64 0), (.int .i64 0), (.int .i64 0), (.int .i64 0), (.int .i64 0)] [(0, 4, (.tmp 15)), (5, 1, (.tmp 17)), (7, 1, (.const (.int .i64 (-1))))]), none⟩,
  ⟨(some 6), .alloc (.alloc [(.int .i64 0), (.int .i64 0), (.int .i64 0), (.int .i64 0), (.int .i64 0), (.int .i64 0), (.int .i64 0), (.int .i64 0)]), none⟩,
  ⟨none, .heavy (.store 8 (.tmp 6) (.tmp 18)), none⟩]
def F18r2 : List DOper := [
  ⟨(some 19), .light (.mov (.tmp 1)), none⟩,
  ⟨(some 20), .light (.lenS (.tmp 19)), none⟩,
  ⟨(some 21), .light (.mov (.const (.int .i64 0))), none⟩]
def F18r3 : List DOper := [
  ⟨(some 22), .light (.bin .int .lss (.tmp 21) (.tmp 20)), none⟩]
def F18r4 : List DOper := [
  ⟨(some 23), .light (.mov (.tmp 21)), none⟩,
  ⟨(some 24), .light (.idxSl 10 (.tmp 19) (.tmp 21)), none⟩,
  ⟨(some 25), .light (.load (some 10) (.tmp 24)), none⟩,
  ⟨(some 8), .alloc (.alloc [(.bool false), (.bool false), (.int .i64 0), (.int .i64 0), (.int .i64 0), (.int .i64 0), (.int .i64 0), (.int .i64 0), (.int .i64 0), (.int .i64 0)]), none⟩,
  ⟨(some 7), .light (.mov (.tmp 23)), none⟩,
  ⟨none, .heavy (.store 10 (.tmp 8) (.tmp 25)), none⟩]
def F18r5 : List DOper := [
  ⟨(some 26), .light (.fieldAddr 2 (.tmp 8)), none⟩,
  ⟨(some 27), .light (.load (some 8) (.tmp 26)), none⟩,
  ⟨(some 9), .alloc (.alloc [(.int .i64 0), (.int .i64 0), (.int .i64 0), (.int .i64 0), (.int .i64 0), (.int .i64 0), (.int .i64 0), (.int .i64 0)]), none⟩,
  ⟨none, .heavy (.store 8 (.tmp 9) (.tmp 27)), none⟩]
def F18r6 : List DOper := [
  ⟨(some 28), .light (.mov (.tmp 7)), none⟩,
  ⟨(some 29), .light (.fieldAddr 7 (.tmp 9)), none⟩,
  ⟨none, .heavy (.store 1 (.tmp 29) (.tmp 28)), none⟩]
def F18r7t2 : List DOper := [
  ⟨(some 51), .light (.bin .int .lss (.tmp 50) (.const (.int .i64 0))), (some (47, false))⟩,
  ⟨(some 52), .light (.pick (.tmp 47) (.const (.bool true)) (.tmp 51)), (some (43, true))⟩,
  ⟨(some 53), .light (.pick (.tmp 43) (.tmp 52) (.const (.bool false))), none⟩]
def F18r7t1 : List DOper :=
  ⟨(some 41), .light (.bin .int .lss (.tmp 40) (.const (.int .i64 0))), (some (36, true))⟩ ::
  ⟨(some 42), .light (.pick (.tmp 36) (.tmp 41) (.const (.bool false))), none⟩ ::
  ⟨(some 43), .light (.mov (.tmp 42)), none⟩ ::
  ⟨(some 44), .light (.fieldAddr 7 (.tmp 6)), (some (43, true))⟩ ::
  ⟨(some 45), .light (.load none (.tmp 44)), (some (43, true))⟩ ::
  ⟨(some 46), .light (.bin .int .lss (.tmp 45) (.const (.int .i64 0))), (some (43, true))⟩ ::
  ⟨(some 47), .light (.mov (.tmp 46)), (some (43, true))⟩ ::
  ⟨(some 48), .light (.load (some 8) (.tmp 9)), (some (47, false))⟩ ::
  ⟨(some 49), .light (.load (some 8) (.tmp 6)), (some (47, false))⟩ ::
  ⟨(some 50), .heavy (.call 23 [(.tmp 48), (.tmp 49)]), (some (47, false))⟩ ::
  F18r7t2
def F18r7 : List DOper :=
  ⟨(some 30), .light (.fieldAddr 0 (.tmp 8)), none⟩ ::
  ⟨(some 31), .light (.load none (.tmp 30)), none⟩ ::
  ⟨(some 32), .light (.mov (.tmp 31)), none⟩ ::
  ⟨(some 33), .light (.fieldAddr 1 (.tmp 8)), (some (32, true))⟩ ::
  ⟨(some 34), .light (.load none (.tmp 33)), (some (32, true))⟩ ::
  ⟨(some 35), .light (.pick (.tmp 32) (.tmp 34) (.const (.bool false))), none⟩ ::
  ⟨(some 36), .light (.mov (.tmp 35)), none⟩ ::
  ⟨(some 37), .light (.fieldAddr 0 (.tmp 9)), (some (36, true))⟩ ::
  ⟨(some 38), .light (.load (some 4) (.tmp 37)), (some (36, true))⟩ ::
  ⟨(some 39), .light (.load (some 4) (.tmp 2)), (some (36, true))⟩ ::
  ⟨(some 40), .heavy (.call 10 [(.tmp 38), (.tmp 39)]), (some (36, true))⟩ ::
  F18r7t1
def F18r8 : List DOper := [
  ⟨(some 54), .light (.load (some 8) (.tmp 9)), none⟩,
  ⟨none, .heavy (.store 8 (.tmp 6) (.tmp 54)), none⟩]
def F18c0 : DCode := (.row F18r8 [1, 2, 4, 6, 19, 20, 21])
def F18c1 : DCode := (.cond (.tmp 53) F18c0 .skip [1, 2, 4, 6, 19, 20, 21])
def F18c2 : DCode := (.seq (.row F18r7 [1, 2, 4, 6, 9, 19, 20, 21, 53]) F18c1)
def F18c3 : DCode := (.seq (.row F18r6 [1, 2, 4, 6, 8, 9, 19, 20, 21]) F18c2)
def F18c4 : DCode := (.seq (.row F18r5 [1, 2, 4, 6, 7, 8, 9, 19, 20, 21]) F18c3)
def F18c5 : DCode := (.seq (.row F18r4 [1, 2, 4, 6, 7, 8, 19, 20, 21]) F18c4)
def F18r9 : List DOper := [
  ⟨(some 55), .light (.bin .int .add (.tmp 21) (.const (.int .i64 1))), none⟩,
  ⟨(some 21), .light (.mov (.tmp 55)), none⟩]
def F18c6 : DCode := (.row F18r9 [1, 2, 4, 6, 19, 20, 21])
def F18c7 : DCode := (.seq (.block 1 F18c5 [1, 2, 4, 6, 19, 20, 21]) F18c6)
def F18c8 : DCode := (.seq (.cond (.tmp 22) .skip (.exit 0) [1, 2, 4, 6, 19, 20, 21]) F18c7)
def F18c9 : DCode := (.seq (.row F18r3 [1, 2, 4, 6, 19, 20, 21, 22]) F18c8)
def F18c10 : DCode := (.loop F18c9)
def F18c11 : DCode := (.block 0 F18c10 [1, 2, 4, 6])
def F18r10 : List DOper := [
  ⟨(some 56), .light (.mov (.tmp 1)), none⟩,
  ⟨(some 57), .light (.lenS (.tmp 56)), none⟩,
  ⟨(some 58), .alloc (.makeslice [(.int .i64 0)] 1 8 (.tmp 57) (.tmp 57)), none⟩,
  ⟨(some 10), .light (.mov (.tmp 58)), none⟩]
def F18r11 : List DOper := [
  ⟨(some 59), .light (.mov (.tmp 1)), none⟩,
  ⟨(some 60), .light (.lenS (.tmp 59)), none⟩,
  ⟨(some 61), .light (.mov (.const (.int .i64 0))), none⟩]
def F18r12 : List DOper := [
  ⟨(some 62), .light (.bin .int .lss (.tmp 61) (.tmp 60)), none⟩]
def F18r13 : List DOper := [
  ⟨(some 63), .light (.mov (.tmp 61)), none⟩,
  ⟨(some 64), .light (.idxSl 10 (.tmp 59) (.tmp 61)), none⟩,
  ⟨(some 65), .light (.load (some 10) (.tmp 64)), none⟩,
  ⟨(some 12), .alloc (.alloc [(.bool false), (.bool false), (.int .i64 0), (.int .i64 0), (.int .i64 0), (.int .i64 0), (.int .i64 0), (.int .i64 0), (.int .i64 0), (.int .i64 0)]), none⟩,
  ⟨(some 11), .light (.mov (.tmp 63)), none⟩,
  ⟨none, .heavy (.store 10 (.tmp 12) (.tmp 65)), none⟩]
def F18r14 : List DOper := [
  ⟨(some 66), .light (.fieldAddr 0 (.tmp 6)), none⟩,
  ⟨(some 67), .light (.load (some 4) (.tmp 66)), none⟩,
  ⟨(some 68), .light (.fieldAddr 4 (.tmp 6)), none⟩,
  ⟨(some 69), .light (.load none (.tmp 68)), none⟩,
  ⟨(some 70), .light (.bin .int .add (.tmp 69) (.const (.int .i64 1))), none⟩,
  ⟨(some 71), .light (.fieldAddr 3 (.tmp 2)), none⟩,
  ⟨(some 72), .light (.load none (.tmp 71)), none⟩,
  ⟨(some 73), .light (.mov (.tmp 11)), none⟩,
  ⟨(some 74), .light (.build [(.int .i64 0), (.int .i64 0), (.int .i64 0), (.int .i64 0), (.int .i64 0), (.int .i64 0), (.int .i64 0), (.int .i64 0)] [(0, 4, (.tmp 67)), (4, 1, (.tmp 70)), (5, 1, (.tmp 72)), (6, 1, (.tmp 73))]), none⟩,
  ⟨(some 13), .alloc (.alloc [(.int .i64 0), (.int .i64 0), (.int .i64 0), (.int .i64 0), (.int .i64 0), (.int .i64 0), (.int .i64 0), (.int .i64 0)]), none⟩,
  ⟨none, .heavy (.store 8 (.tmp 13) (.tmp 74)), none⟩]
def F18r15 : List DOper := [
  ⟨(some 75), .light (.fieldAddr 7 (.tmp 6)), none⟩,
  ⟨(some 76), .light (.load none (.tmp 75)), none⟩,
  ⟨(some 77), .light (.bin .int .lss (.tmp 76) (.const (.int .i64 0))), none⟩]
def F18r16 : List DOper := [
  ⟨(some 78), .light (.fieldAddr 4 (.tmp 13)), none⟩,
  ⟨none, .heavy (.store 1 (.tmp 78) (.const (.int .i64 0))), none⟩]
def F18c12 : DCode := (.row F18r16 [2, 4, 6, 10, 11, 12, 13, 59, 60, 61])
def F18c13 : DCode := (.cond (.tmp 77) F18c12 .skip [2, 4, 6, 10, 11, 12, 13, 59, 60, 61])
def F18r17 : List DOper := [
  ⟨(some 79), .light (.fieldAddr 2 (.tmp 12)), none⟩,
  ⟨(some 80), .light (.load (some 8) (.tmp 79)), none⟩,
  ⟨(some 14), .alloc (.alloc [(.int .i64 0), (.int .i64 0), (.int .i64 0), (.int .i64 0), (.int .i64 0), (.int .i64 0), (.int .i64 0), (.int .i64 0)]), none⟩,
  ⟨none, .heavy (.store 8 (.tmp 14) (.tmp 80)), none⟩]
def F18r18 : List DOper := [
  ⟨(some 81), .light (.fieldAddr 7 (.tmp 14)), none⟩,
  ⟨none, .heavy (.store 1 (.tmp 81) (.const (.int .i64 0))), none⟩]
def F18r19 : List DOper := [
  ⟨(some 86), .light (.fieldAddr 0 (.tmp 12)), none⟩,
  ⟨(some 87), .light (.load none (.tmp 86)), none⟩,
  ⟨(some 88), .light (.un .not (.tmp 87)), none⟩,
  ⟨(some 85), .light (.mov (.tmp 88)), none⟩]
def F18r20 : List DOper := [
  ⟨(some 90), .light (.mov (.tmp 11)), none⟩,
  ⟨(some 91), .light (.fieldAddr 7 (.tmp 6)), none⟩,
  ⟨(some 92), .light (.load none (.tmp 91)), none⟩,
  ⟨(some 93), .light (.bin .int .eql (.tmp 90) (.tmp 92)), none⟩,
  ⟨(some 89), .light (.mov (.tmp 93)), none⟩]
def F18r21 : List DOper := [
  ⟨(some 94), .light (.mov (.tmp 10)), none⟩,
  ⟨(some 95), .light (.mov (.tmp 11)), none⟩,
  ⟨(some 96), .light (.idxSl 1 (.tmp 94) (.tmp 95)), none⟩,
  ⟨none, .heavy (.store 1 (.tmp 96) (.const (.int .i64 2))), none⟩]
def F18c14 : DCode := (.row F18r21 [2, 4, 6, 10, 59, 60, 61])
def F18r22t1 : List DOper := [
  ⟨(some 109), .light (.bin .int .lss (.tmp 108) (.const (.int .i64 0))), (some (105, true))⟩,
  ⟨(some 110), .light (.pick (.tmp 105) (.tmp 109) (.const (.bool false))), none⟩,
  ⟨(some 97), .light (.mov (.tmp 110)), none⟩]
def F18r22 : List DOper :=
  ⟨(some 98), .light (.fieldAddr 7 (.tmp 6)), none⟩ ::
  ⟨(some 99), .light (.load none (.tmp 98)), none⟩ ::
  ⟨(some 100), .light (.bin .int .geq (.tmp 99) (.const (.int .i64 0))), none⟩ ::
  ⟨(some 101), .light (.mov (.tmp 100)), none⟩ ::
  ⟨(some 102), .light (.fieldAddr 1 (.tmp 12)), (some (101, true))⟩ ::
  ⟨(some 103), .light (.load none (.tmp 102)), (some (101, true))⟩ ::
  ⟨(some 104), .light (.pick (.tmp 101) (.tmp 103) (.const (.bool false))), none⟩ ::
  ⟨(some 105), .light (.mov (.tmp 104)), none⟩ ::
  ⟨(some 106), .light (.load (some 8) (.tmp 14)), (some (105, true))⟩ ::
  ⟨(some 107), .light (.load (some 8) (.tmp 13)), (some (105, true))⟩ ::
  ⟨(some 108), .heavy (.call 23 [(.tmp 106), (.tmp 107)]), (some (105, true))⟩ ::
  F18r22t1
def F18r23 : List DOper := [
  ⟨(some 111), .light (.mov (.tmp 10)), none⟩,
  ⟨(some 112), .light (.mov (.tmp 11)), none⟩,
  ⟨(some 113), .light (.idxSl 1 (.tmp 111) (.tmp 112)), none⟩,
  ⟨none, .heavy (.store 1 (.tmp 113) (.const (.int .i64 3))), none⟩]
def F18c15 : DCode := (.row F18r23 [2, 4, 6, 10, 59, 60, 61])
def F18r24 : List DOper := [
  ⟨(some 82), .light (.mov (.tmp 10)), none⟩,
  ⟨(some 83), .light (.mov (.tmp 11)), none⟩,
  ⟨(some 84), .light (.idxSl 1 (.tmp 82) (.tmp 83)), none⟩,
  ⟨none, .heavy (.store 1 (.tmp 84) (.const (.int .i64 1))), none⟩]
def F18c16 : DCode := (.row F18r24 [2, 4, 6, 10, 59, 60, 61])
def F18c17 : DCode := (.cond (.tmp 97) F18c15 F18c16 [2, 4, 6, 10, 59, 60, 61])
def F18c18 : DCode := (.seq (.row F18r22 [2, 4, 6, 10, 11, 59, 60, 61, 97]) F18c17)
def F18c19 : DCode := (.cond (.tmp 89) F18c14 F18c18 [2, 4, 6, 10, 59, 60, 61])
def F18c20 : DCode := (.seq (.row F18r20 [2, 4, 6, 10, 11, 12, 13, 14, 59, 60, 61, 89]) F18c19)
def F18c21 : DCode := (.cond (.tmp 85) .skip F18c20 [2, 4, 6, 10, 59, 60, 61])
def F18c22 : DCode := (.seq (.row F18r19 [2, 4, 6, 10, 11, 12, 13, 14, 59, 60, 61, 85]) F18c21)
def F18c23 : DCode := (.block 4 F18c22 [2, 4, 6, 10, 59, 60, 61])
def F18c24 : DCode := (.seq (.row F18r18 [2, 4, 6, 10, 11, 12, 13, 14, 59, 60, 61]) F18c23)
def F18c25 : DCode := (.seq (.row F18r17 [2, 4, 6, 10, 11, 12, 13, 14, 59, 60, 61]) F18c24)
def F18c26 : DCode := (.seq (.seq (.row F18r15 [2, 4, 6, 10, 11, 12, 13, 59, 60, 61, 77]) F18c13) F18c25)
def F18c27 : DCode := (.seq (.row F18r14 [2, 4, 6, 10, 11, 12, 13, 59, 60, 61]) F18c26)
def F18c28 : DCode := (.seq (.row F18r13 [2, 4, 6, 10, 11, 12, 59, 60, 61]) F18c27)
def F18r25 : List DOper := [
  ⟨(some 114), .light (.bin .int .add (.tmp 61) (.const (.int .i64 1))), none⟩,
  ⟨(some 61), .light (.mov (.tmp 114)), none⟩]
def F18c29 : DCode := (.row F18r25 [2, 4, 6, 10, 59, 60, 61])
def F18c30 : DCode := (.seq (.block 3 F18c28 [2, 4, 6, 10, 59, 60, 61]) F18c29)
def F18c31 : DCode := (.seq (.cond (.tmp 62) .skip (.exit 2) [2, 4, 6, 10, 59, 60, 61]) F18c30)
def F18c32 : DCode := (.seq (.row F18r12 [2, 4, 6, 10, 59, 60, 61, 62]) F18c31)
def F18c33 : DCode := (.loop F18c32)
def F18c34 : DCode := (.block 2 F18c33 [4, 6, 10])
def F18r26 : List DOper := [
  ⟨(some 115), .light (.load (some 8) (.tmp 6)), none⟩,
  ⟨(some 116), .light (.mov (.tmp 10)), none⟩,
  ⟨none, .heavy (.store 8 (.tmp 4) (.tmp 115)), none⟩,
  ⟨(some 5), .light (.mov (.tmp 116)), none⟩]
def F18c35 : DCode := (.seq (.row F18r26 [4, 5]) .ret)
def F18c36 : DCode := (.seq (.seq (.row F18r11 [2, 4, 6, 10, 59, 60, 61]) F18c34) F18c35)
def F18c37 : DCode := (.seq (.row F18r10 [1, 2, 4, 6, 10]) F18c36)
def F18c38 : DCode := (.seq (.seq (.row F18r2 [1, 2, 4, 6, 19, 20, 21]) F18c11) F18c37)
def F18c39 : DCode := (.seq (.row F18r1 [1, 2, 4, 6]) F18c38)
def F18 : DCode := (.seq (.row F18r0 [1, 2, 4]) F18c39)
def F18a : Ann := (.two (.reg [1, 2, 4] none) (.two (.reg [1, 2, 4, 6] none) (.two (.two (.reg [1, 2, 4, 6, 19, 20, 21] none) (.one (.one (.two (.reg [1, 2, 4, 6, 19, 20, 21, 22] none) (.two (.two .nil .nil [1, 2, 4, 6, 19, 20, 21]) (.two (.one (.two (.reg [1, 2, 4, 6, 7, 8, 19, 20, 21] none) (.two (.reg [1, 2, 4, 6, 7, 8, 9, 19, 20, 21] none) (.two (.reg [1, 2, 4, 6, 8, 9, 19, 20, 21] none) (.two (.reg [1, 2, 4, 6, 9, 19, 20, 21, 53] none) (.two (.reg [1, 2, 4, 6, 19, 20, 21] none) .nil [1, 2, 4, 6, 19, 20, 21]) []) []) []) []) [1, 2, 4, 6, 19, 20, 21]) (.reg [1, 2, 4, 6, 19, 20, 21] none) []) []) []) []) [1, 2, 4, 6]) []) (.two (.reg [1, 2, 4, 6, 10] none) (.two (.two (.reg [2, 4, 6, 10, 59, 60, 61] none) (.one (.one (.two (.reg [2, 4, 6, 10, 59, 60, 61, 62] none) (.two (.two .nil .nil [2, 4, 6, 10, 59, 60, 61]) (.two (.one (.two (.reg [2, 4, 6, 10, 11, 12, 59, 60, 61] none) (.two (.reg [2, 4, 6, 10, 11, 12, 13, 59, 60, 61] none) (.two (.two (.reg [2, 4, 6, 10, 11, 12, 13, 59, 60, 61, 77] none) (.two (.reg [2, 4, 6, 10, 11, 12, 13, 59, 60, 61] none) .nil [2, 4, 6, 10, 11, 12, 13, 59, 60, 61]) []) (.two (.reg [2, 4, 6, 10, 11, 12, 13, 14, 59, 60, 61] none) (.two (.reg [2, 4, 6, 10, 11, 12, 13, 14, 59, 60, 61] none) (.one (.two (.reg [2, 4, 6, 10, 11, 12, 13, 14, 59, 60, 61, 85] none) (.two .nil (.two (.reg [2, 4, 6, 10, 11, 12, 13, 14, 59, 60, 61, 89] none) (.two (.reg [2, 4, 6, 10, 59, 60, 61] none) (.two (.reg [2, 4, 6, 10, 11, 59, 60, 61, 97] none) (.two (.reg [2, 4, 6, 10, 59, 60, 61] none) (.reg [2, 4, 6, 10, 59, 60, 61] none) [2, 4, 6, 10, 59, 60, 61]) []) [2, 4, 6, 10, 59, 60, 61]) []) [2, 4, 6, 10, 59, 60, 61]) []) [2, 4, 6, 10, 59, 60, 61]) []) []) []) []) []) [2, 4, 6, 10, 59, 60, 61]) (.reg [2, 4, 6, 10, 59, 60, 61] none) []) []) []) []) [4, 6, 10]) []) (.two (.reg [4, 5] none) .nil []) []) []) []) []) [])
theorem F18_comp : Go.Proofs.Try.f18.body.bind (compC Go.Proofs.Try.prog 117 F18a) = some F18 := by kernel_rfl
theorem F18_call {args : List Value} (hn : args.length ≤ 117) {A : AHeap} {K : Value → AHeap → Prop} (h : wpC Go.Proofs.Try.prog F18 (enterE 0 args) A (endK [.cell 4 (some 8), .tmp 5] K)) : dcall Go.Proofs.Try.prog 18 args A K :=
  dcall_by (fn := Go.Proofs.Try.f18) (ann := F18a) mixed_on Go.Proofs.Try.func18 F18_comp rfl hn h
/-! (*sandglass/tree.Tree).ports -/
def F19r0 : List DOper := [
  ⟨(some 4), .light (.mov (.const (.slice none 0 0))), none⟩]
def F19r1t1 : List DOper := [
  ⟨(some 5), .light (.mov (.tmp 11)), none⟩]
def F19r1 : List DOper :=
  ⟨(some 7), .light (.mov (.tmp 0)), none⟩ ::
  ⟨(some 8), .light (.nilchk (.tmp 7)), none⟩ ::
  ⟨(some 9), .light (.fieldAddr 7 (.tmp 8)), none⟩ ::
  ⟨(some 10), .light (.load none (.tmp 9)), none⟩ ::
  ⟨(some 11), .heavy (.call 24 [(.tmp 10)]), none⟩ ::
  F19r1t1
def F19r2 : List DOper := [
  ⟨(some 12), .light (.mov (.tmp 5)), none⟩,
  ⟨(some 13), .light (.lenS (.tmp 12)), none⟩,
  ⟨(some 14), .light (.mov (.const (.int .i64 0))), none⟩]
def F19r3 : List DOper := [
  ⟨(some 15), .light (.bin .int .lss (.tmp 14) (.tmp 13)), none⟩]
def F19r4 : List DOper := [
  ⟨(some 16), .light (.mov (.tmp 14)), none⟩,
  ⟨(some 6), .light (.mov (.tmp 16)), none⟩]
def F19r5 : List DOper := [
  ⟨(some 17), .light (.mov (.tmp 5)), none⟩,
  ⟨(some 18), .light (.mov (.tmp 6)), none⟩,
  ⟨(some 19), .light (.mov (.tmp 0)), none⟩,
  ⟨(some 20), .light (.nilchk (.tmp 19)), none⟩,
  ⟨(some 21), .light (.fieldAddr 6 (.tmp 20)), none⟩,
  ⟨(some 22), .light (.load none (.tmp 21)), none⟩,
  ⟨(some 23), .light (.mov (.tmp 6)), none⟩,
  ⟨(some 24), .light (.idxSl 1 (.tmp 22) (.tmp 23)), none⟩,
  ⟨(some 25), .light (.load none (.tmp 24)), none⟩,
  ⟨(some 26), .light (.idxSl 10 (.tmp 17) (.tmp 18)), none⟩,
  ⟨(some 27), .light (.fieldAddr 0 (.tmp 26)), none⟩,
  ⟨none, .heavy (.store 1 (.tmp 27) (.tmp 25)), none⟩]
def F19r6 : List DOper := [
  ⟨(some 28), .light (.mov (.tmp 1)), none⟩,
  ⟨(some 29), .light (.mov (.tmp 0)), none⟩,
  ⟨(some 30), .light (.nilchk (.tmp 29)), none⟩,
  ⟨(some 31), .light (.fieldAddr 9 (.tmp 30)), none⟩,
  ⟨(some 32), .light (.load none (.tmp 31)), none⟩,
  ⟨(some 33), .light (.mov (.tmp 6)), none⟩,
  ⟨(some 34), .light (.idxSl 1 (.tmp 32) (.tmp 33)), none⟩,
  ⟨(some 35), .light (.load none (.tmp 34)), none⟩,
  ⟨(some 36), .light (.bin .int .lss (.tmp 28) (.tmp 35)), none⟩,
  ⟨(some 37), .light (.mov (.tmp 36)), none⟩,
  ⟨(some 38), .light (.mov (.tmp 1)), (some (37, false))⟩,
  ⟨(some 39), .light (.conv .u64 (.tmp 38)), (some (37, false))⟩,
  ⟨(some 40), .light (.mov (.tmp 0)), (some (37, false))⟩,
  ⟨(some 41), .light (.nilchk (.tmp 40)), (some (37, false))⟩,
  ⟨(some 42), .light (.fieldAddr 9 (.tmp 41)), (some (37, false))⟩,
  ⟨(some 43), .light (.load none (.tmp 42)), (some (37, false))⟩,
  ⟨(some 44), .light (.mov (.tmp 6)), (some (37, false))⟩,
  ⟨(some 45), .light (.idxSl 1 (.tmp 43) (.tmp 44)), (some (37, false))⟩,
  ⟨(some 46), .light (.load none (.tmp 45)), (some (37, false))⟩,
  ⟨(some 47), .light (.conv .u64 (.tmp 46)), (some (37, false))⟩,
  ⟨(some 48), .light (.bin .int .sub (.tmp 39) (.tmp 47)), (some (37, false))⟩,
  ⟨(some 49), .light (.mov (.tmp 0)), (some (37, false))⟩,
  ⟨(some 50), .light (.nilchk (.tmp 49)), (some (37, false))⟩,
  ⟨(some 51), .light (.fieldAddr 5 (.tmp 50)), (some (37, false))⟩,
  ⟨(some 52), .light (.load none (.tmp 51)), (some (37, false))⟩,
  ⟨(some 53), .light (.conv .u64 (.tmp 52)), (some (37, false))⟩,
  ⟨(some 54), .light (.bin .int .gtr (.tmp 48) (.tmp 53)), (some (37, false))⟩,
  ⟨(some 55), .light (.pick (.tmp 37) (.const (.bool true)) (.tmp 54)), none⟩]
def F19p6 : Plan := ⟨[.light 0, .light 1, .light 2, .light 3, .light 4, .light 5, .light 6, .light 7, .light 8, .light 9, .light 10, .light 11, .light 12, .light 13, .light 14, .light 15, .light 16, .light 17, .light 18, .light 19, .light 20, .light 21, .light 22, .light 23, .light 24, .light 25, .light 26, .light 27], [], [], [[], [], [1], [1, 2], [1, 2, 3], [], [1, 2, 3, 4, 5], [1, 2, 3, 4, 5, 6], [0, 1, 2, 3, 4, 5, 6, 7], [0, 1, 2, 3, 4, 5, 6, 7, 8], [0, 1, 2, 3, 4, 5, 6, 7, 8, 9], [0, 1, 2, 3, 4, 5, 6, 7, 8, 9, 10], [0, 1, 2, 3, 4, 5, 6, 7, 8, 9], [0, 1, 2, 3, 4, 5, 6, 7, 8, 9, 12], [0, 1, 2, 3, 4, 5, 6, 7, 8, 9, 12, 13], [0, 1, 2, 3, 4, 5, 6, 7, 8, 9, 12, 13, 14], [0, 1, 2, 3, 4, 5, 6, 7, 8, 9], [0, 1, 2, 3, 4, 5, 6, 7, 8, 9, 12, 13, 14, 15, 16], [0, 1, 2, 3, 4, 5, 6, 7, 8, 9, 12, 13, 14, 15, 16, 17], [0, 1, 2, 3, 4, 5, 6, 7, 8, 9, 12, 13, 14, 15, 16, 17, 18], [0, 1, 2, 3, 4, 5, 6, 7, 8, 9, 10, 11, 12, 13, 14, 15, 16, 17, 18, 19], [0, 1, 2, 3, 4, 5, 6, 7, 8, 9], [0, 1, 2, 3, 4, 5, 6, 7, 8, 9, 21], [0, 1, 2, 3, 4, 5, 6, 7, 8, 9, 21, 22], [0, 1, 2, 3, 4, 5, 6, 7, 8, 9, 21, 22, 23], [0, 1, 2, 3, 4, 5, 6, 7, 8, 9, 21, 22, 23, 24], [0, 1, 2, 3, 4, 5, 6, 7, 8, 9, 10, 11, 12, 13, 14, 15, 16, 17, 18, 19, 20, 21, 22, 23, 24, 25], [0, 1, 2, 3, 4, 5, 6, 7, 8, 9, 10, 11, 12, 13, 14, 15, 16, 17, 18, 19, 20, 21, 22, 23, 24, 25, 26]]⟩
def F19s6 : List RStep := [
  .light 0 ⟨(some 28), .light (.mov (.tmp 1)), none⟩,
  .light 0 ⟨(some 29), .light (.mov (.tmp 0)), none⟩,
  .light 0 ⟨(some 30), .light (.nilchk (.tmp 29)), none⟩,
  .light 0 ⟨(some 31), .light (.fieldAddr 9 (.tmp 30)), none⟩,
  .light 0 ⟨(some 32), .light (.load none (.tmp 31)), none⟩,
  .light 0 ⟨(some 33), .light (.mov (.tmp 6)), none⟩,
  .light 0 ⟨(some 34), .light (.idxSl 1 (.tmp 32) (.tmp 33)), none⟩,
  .light 0 ⟨(some 35), .light (.load none (.tmp 34)), none⟩,
  .light 0 ⟨(some 36), .light (.bin .int .lss (.tmp 28) (.tmp 35)), none⟩,
  .light 0 ⟨(some 37), .light (.mov (.tmp 36)), none⟩,
  .light 0 ⟨(some 38), .light (.mov (.tmp 1)), (some (37, false))⟩,
  .light 0 ⟨(some 39), .light (.conv .u64 (.tmp 38)), (some (37, false))⟩,
  .light 0 ⟨(some 40), .light (.mov (.tmp 0)), (some (37, false))⟩,
  .light 0 ⟨(some 41), .light (.nilchk (.tmp 40)), (some (37, false))⟩,
  .light 0 ⟨(some 42), .light (.fieldAddr 9 (.tmp 41)), (some (37, false))⟩,
  .light 0 ⟨(some 43), .light (.load none (.tmp 42)), (some (37, false))⟩,
  .light 0 ⟨(some 44), .light (.mov (.tmp 6)), (some (37, false))⟩,
  .light 0 ⟨(some 45), .light (.idxSl 1 (.tmp 43) (.tmp 44)), (some (37, false))⟩,
  .light 0 ⟨(some 46), .light (.load none (.tmp 45)), (some (37, false))⟩,
  .light 0 ⟨(some 47), .light (.conv .u64 (.tmp 46)), (some (37, false))⟩,
  .light 0 ⟨(some 48), .light (.bin .int .sub (.tmp 39) (.tmp 47)), (some (37, false))⟩,
  .light 0 ⟨(some 49), .light (.mov (.tmp 0)), (some (37, false))⟩,
  .light 0 ⟨(some 50), .light (.nilchk (.tmp 49)), (some (37, false))⟩,
  .light 0 ⟨(some 51), .light (.fieldAddr 5 (.tmp 50)), (some (37, false))⟩,
  .light 0 ⟨(some 52), .light (.load none (.tmp 51)), (some (37, false))⟩,
  .light 0 ⟨(some 53), .light (.conv .u64 (.tmp 52)), (some (37, false))⟩,
  .light 0 ⟨(some 54), .light (.bin .int .gtr (.tmp 48) (.tmp 53)), (some (37, false))⟩,
  .light 0 ⟨(some 55), .light (.pick (.tmp 37) (.const (.bool true)) (.tmp 54)), none⟩]
theorem F19d6 {E : Env} {A : AHeap} {K : Exit → Env → AHeap → Prop} : wpC Go.Proofs.Try.prog (.draw F19r6 F19p6 [0, 1, 5, 6, 13, 14, 55]) E A K = wpD Go.Proofs.Try.prog [] A.next F19s6 E (A.reserve 0) fun E' A' => K .normal (E'.keep [0, 1, 5, 6, 13, 14, 55]) A' := wpC_res rfl rfl rfl
def F19r7 : List DOper := [
  ⟨(some 56), .light (.mov (.tmp 5)), none⟩,
  ⟨(some 57), .light (.mov (.tmp 6)), none⟩,
  ⟨(some 58), .light (.idxSl 10 (.tmp 56) (.tmp 57)), none⟩,
  ⟨(some 59), .light (.fieldAddr 1 (.tmp 58)), none⟩,
  ⟨none, .heavy (.store 1 (.tmp 59) (.const (.bool false))), none⟩]
def F19c0 : DCode := (.row F19r7 [0, 1, 5, 13, 14])
def F19c1 : DCode := (.cond (.tmp 55) F19c0 .skip [0, 1, 5, 13, 14])
def F19c2 : DCode := (.seq (.draw F19r6 F19p6 [0, 1, 5, 6, 13, 14, 55]) F19c1)
def F19c3 : DCode := (.seq (.row F19r5 [0, 1, 5, 6, 13, 14]) F19c2)
def F19c4 : DCode := (.seq (.row F19r4 [0, 1, 5, 6, 13, 14]) F19c3)
def F19r8 : List DOper := [
  ⟨(some 60), .light (.bin .int .add (.tmp 14) (.const (.int .i64 1))), none⟩,
  ⟨(some 14), .light (.mov (.tmp 60)), none⟩]
def F19c5 : DCode := (.row F19r8 [0, 1, 5, 13, 14])
def F19c6 : DCode := (.seq (.block 1 F19c4 [0, 1, 5, 13, 14]) F19c5)
def F19c7 : DCode := (.seq (.cond (.tmp 15) .skip (.exit 0) [0, 1, 5, 13, 14]) F19c6)
def F19c8 : DCode := (.seq (.row F19r3 [0, 1, 5, 13, 14, 15]) F19c7)
def F19c9 : DCode := (.loop F19c8)
def F19c10 : DCode := (.block 0 F19c9 [5])
def F19r9 : List DOper := [
  ⟨(some 61), .light (.mov (.tmp 5)), none⟩,
  ⟨(some 4), .light (.mov (.tmp 61)), none⟩]
def F19c11 : DCode := (.seq (.row F19r9 [4]) .ret)
def F19c12 : DCode := (.seq (.seq (.row F19r2 [0, 1, 5, 13, 14]) F19c10) F19c11)
def F19c13 : DCode := (.seq (.row F19r1 [0, 1, 5]) F19c12)
def F19 : DCode := (.seq (.row F19r0 [0, 1]) F19c13)
def F19a : Ann := (.two (.reg [0, 1] none) (.two (.reg [0, 1, 5] none) (.two (.two (.reg [0, 1, 5, 13, 14] none) (.one (.one (.two (.reg [0, 1, 5, 13, 14, 15] none) (.two (.two .nil .nil [0, 1, 5, 13, 14]) (.two (.one (.two (.reg [0, 1, 5, 6, 13, 14] none) (.two (.reg [0, 1, 5, 6, 13, 14] none) (.two (.reg [0, 1, 5, 6, 13, 14, 55] (some F19p6)) (.two (.reg [0, 1, 5, 13, 14] none) .nil [0, 1, 5, 13, 14]) []) []) []) [0, 1, 5, 13, 14]) (.reg [0, 1, 5, 13, 14] none) []) []) []) []) [5]) []) (.two (.reg [4] none) .nil []) []) []) [])
theorem F19_comp : Go.Proofs.Try.f19.body.bind (compC Go.Proofs.Try.prog 62 F19a) = some F19 := by kernel_rfl
theorem F19_call {args : List Value} (hn : args.length ≤ 62) {A : AHeap} {K : Value → AHeap → Prop} (h : wpC Go.Proofs.Try.prog F19 (enterE 0 args) A (endK [.tmp 4] K)) : dcall Go.Proofs.Try.prog 19 args A K :=
  dcall_by (fn := Go.Proofs.Try.f19) (ann := F19a) mixed_on Go.Proofs.Try.func19 F19_comp rfl hn h
/-! sandglass/ptp.within -/
def F20r0 : List DOper := [
  ⟨(some 4), .light (.mov (.const (.bool false))), none⟩]
def F20r1 : List DOper := [
  ⟨(some 7), .light (.mov (.tmp 1)), none⟩,
  ⟨(some 8), .light (.lenS (.tmp 7)), none⟩,
  ⟨(some 9), .light (.mov (.const (.int .i64 0))), none⟩]
def F20r2 : List DOper := [
  ⟨(some 10), .light (.bin .int .lss (.tmp 9) (.tmp 8)), none⟩]
def F20r3 : List DOper := [
  ⟨(some 11), .light (.idxSl 1 (.tmp 7) (.tmp 9)), none⟩,
  ⟨(some 12), .light (.load none (.tmp 11)), none⟩,
  ⟨(some 6), .light (.mov (.tmp 12)), none⟩]
def F20r4 : List DOper := [
  ⟨(some 13), .light (.mov (.tmp 6)), none⟩,
  ⟨(some 14), .light (.bin .int .lss (.tmp 13) (.const (.int .i64 0))), none⟩,
  ⟨(some 15), .light (.mov (.tmp 14)), none⟩,
  ⟨(some 16), .light (.mov (.tmp 6)), (some (15, false))⟩,
  ⟨(some 17), .light (.mov (.tmp 0)), (some (15, false))⟩,
  ⟨(some 18), .light (.bin .int .gtr (.tmp 16) (.tmp 17)), (some (15, false))⟩,
  ⟨(some 19), .light (.pick (.tmp 15) (.const (.bool true)) (.tmp 18)), none⟩]
def F20r5 : List DOper := [
  ⟨(some 4), .light (.mov (.const (.bool false))), none⟩]
def F20c0 : DCode := (.seq (.row F20r5 [4]) .ret)
def F20c1 : DCode := (.cond (.tmp 19) F20c0 .skip [0, 7, 8, 9])
def F20c2 : DCode := (.seq (.row F20r4 [0, 7, 8, 9, 19]) F20c1)
def F20c3 : DCode := (.seq (.row F20r3 [0, 6, 7, 8, 9]) F20c2)
def F20r6 : List DOper := [
  ⟨(some 20), .light (.bin .int .add (.tmp 9) (.const (.int .i64 1))), none⟩,
  ⟨(some 9), .light (.mov (.tmp 20)), none⟩]
def F20c4 : DCode := (.row F20r6 [0, 7, 8, 9])
def F20c5 : DCode := (.seq (.block 1 F20c3 [0, 7, 8, 9]) F20c4)
def F20c6 : DCode := (.seq (.cond (.tmp 10) .skip (.exit 0) [0, 7, 8, 9]) F20c5)
def F20c7 : DCode := (.seq (.row F20r2 [0, 7, 8, 9, 10]) F20c6)
def F20c8 : DCode := (.loop F20c7)
def F20c9 : DCode := (.block 0 F20c8 [])
def F20r7 : List DOper := [
  ⟨(some 4), .light (.mov (.const (.bool true))), none⟩]
def F20c10 : DCode := (.seq (.row F20r7 [4]) .ret)
def F20c11 : DCode := (.seq (.seq (.row F20r1 [0, 7, 8, 9]) F20c9) F20c10)
def F20 : DCode := (.seq (.row F20r0 [0, 1]) F20c11)
def F20a : Ann := (.two (.reg [0, 1] none) (.two (.two (.reg [0, 7, 8, 9] none) (.one (.one (.two (.reg [0, 7, 8, 9, 10] none) (.two (.two .nil .nil [0, 7, 8, 9]) (.two (.one (.two (.reg [0, 6, 7, 8, 9] none) (.two (.reg [0, 7, 8, 9, 19] none) (.two (.two (.reg [4] none) .nil []) .nil [0, 7, 8, 9]) []) []) [0, 7, 8, 9]) (.reg [0, 7, 8, 9] none) []) []) []) []) []) []) (.two (.reg [4] none) .nil []) []) [])
theorem F20_comp : Go.Proofs.Try.f20.body.bind (compC Go.Proofs.Try.prog 21 F20a) = some F20 := by kernel_rfl
theorem F20_call {args : List Value} (hn : args.length ≤ 21) {A : AHeap} {K : Value → AHeap → Prop} (h : wpC Go.Proofs.Try.prog F20 (enterE 0 args) A (endK [.tmp 4] K)) : dcall Go.Proofs.Try.prog 20 args A K :=
  dcall_by (fn := Go.Proofs.Try.f20) (ann := F20a) mixed_on Go.Proofs.Try.func20 F20_comp rfl hn h
/-! slices.Index[[]int,int] -/
def F21r0 : List DOper := [
  ⟨(some 4), .light (.mov (.const (.int .i64 0))), none⟩]
def F21r1 : List DOper := [
  ⟨(some 6), .light (.mov (.tmp 0)), none⟩,
  ⟨(some 7), .light (.lenS (.tmp 6)), none⟩,
  ⟨(some 8), .light (.mov (.const (.int .i64 0))), none⟩]
def F21r2 : List DOper := [
  ⟨(some 9), .light (.bin .int .lss (.tmp 8) (.tmp 7)), none⟩]
def F21r3 : List DOper := [
  ⟨(some 10), .light (.mov (.tmp 8)), none⟩,
  ⟨(some 5), .light (.mov (.tmp 10)), none⟩]
def F21r4 : List DOper := [
  ⟨(some 11), .light (.mov (.tmp 1)), none⟩,
  ⟨(some 12), .light (.mov (.tmp 0)), none⟩,
  ⟨(some 13), .light (.mov (.tmp 5)), none⟩,
  ⟨(some 14), .light (.idxSl 1 (.tmp 12) (.tmp 13)), none⟩,
  ⟨(some 15), .light (.load none (.tmp 14)), none⟩,
  ⟨(some 16), .light (.bin .int .eql (.tmp 11) (.tmp 15)), none⟩]
def F21r5 : List DOper := [
  ⟨(some 17), .light (.mov (.tmp 5)), none⟩,
  ⟨(some 4), .light (.mov (.tmp 17)), none⟩]
def F21c0 : DCode := (.seq (.row F21r5 [4]) .ret)
def F21c1 : DCode := (.cond (.tmp 16) F21c0 .skip [0, 1, 7, 8])
def F21c2 : DCode := (.seq (.row F21r4 [0, 1, 5, 7, 8, 16]) F21c1)
def F21c3 : DCode := (.seq (.row F21r3 [0, 1, 5, 7, 8]) F21c2)
def F21r6 : List DOper := [
  ⟨(some 18), .light (.bin .int .add (.tmp 8) (.const (.int .i64 1))), none⟩,
  ⟨(some 8), .light (.mov (.tmp 18)), none⟩]
def F21c4 : DCode := (.row F21r6 [0, 1, 7, 8])
def F21c5 : DCode := (.seq (.block 1 F21c3 [0, 1, 7, 8]) F21c4)
def F21c6 : DCode := (.seq (.cond (.tmp 9) .skip (.exit 0) [0, 1, 7, 8]) F21c5)
def F21c7 : DCode := (.seq (.row F21r2 [0, 1, 7, 8, 9]) F21c6)
def F21c8 : DCode := (.loop F21c7)
def F21c9 : DCode := (.block 0 F21c8 [])
def F21r7 : List DOper := [
  ⟨(some 4), .light (.mov (.const (.int .i64 (-1)))), none⟩]
def F21c10 : DCode := (.seq (.row F21r7 [4]) .ret)
def F21c11 : DCode := (.seq (.seq (.row F21r1 [0, 1, 7, 8]) F21c9) F21c10)
def F21 : DCode := (.seq (.row F21r0 [0, 1]) F21c11)
def F21a : Ann := (.two (.reg [0, 1] none) (.two (.two (.reg [0, 1, 7, 8] none) (.one (.one (.two (.reg [0, 1, 7, 8, 9] none) (.two (.two .nil .nil [0, 1, 7, 8]) (.two (.one (.two (.reg [0, 1, 5, 7, 8] none) (.two (.reg [0, 1, 5, 7, 8, 16] none) (.two (.two (.reg [4] none) .nil []) .nil [0, 1, 7, 8]) []) []) [0, 1, 7, 8]) (.reg [0, 1, 7, 8] none) []) []) []) []) []) []) (.two (.reg [4] none) .nil []) []) [])
theorem F21_comp : Go.Proofs.Try.f21.body.bind (compC Go.Proofs.Try.prog 19 F21a) = some F21 := by kernel_rfl
theorem F21_call {args : List Value} (hn : args.length ≤ 19) {A : AHeap} {K : Value → AHeap → Prop} (h : wpC Go.Proofs.Try.prog F21 (enterE 0 args) A (endK [.tmp 4] K)) : dcall Go.Proofs.Try.prog 21 args A K :=
  dcall_by (fn := Go.Proofs.Try.f21) (ann := F21a) mixed_on Go.Proofs.Try.func21 F21_comp rfl hn h
/-! cmp.isNaN[int] -/
def F22r0 : List DOper := [
  ⟨(some 2), .light (.mov (.const (.bool false))), none⟩]
def F22r1 : List DOper := [
  ⟨(some 3), .light (.mov (.tmp 0)), none⟩,
  ⟨(some 4), .light (.mov (.tmp 0)), none⟩,
  ⟨(some 5), .light (.bin .int .neq (.tmp 3) (.tmp 4)), none⟩,
  ⟨(some 2), .light (.mov (.tmp 5)), none⟩]
def F22c0 : DCode := (.seq (.row F22r1 [2]) .ret)
def F22 : DCode := (.seq (.row F22r0 [0]) F22c0)
def F22a : Ann := (.two (.reg [0] none) (.two (.reg [2] none) .nil []) [])
theorem F22_comp : Go.Proofs.Try.f22.body.bind (compC Go.Proofs.Try.prog 6 F22a) = some F22 := by kernel_rfl
theorem F22_call {args : List Value} (hn : args.length ≤ 6) {A : AHeap} {K : Value → AHeap → Prop} (h : wpC Go.Proofs.Try.prog F22 (enterE 0 args) A (endK [.tmp 2] K)) : dcall Go.Proofs.Try.prog 22 args A K :=
  dcall_by (fn := Go.Proofs.Try.f22) (ann := F22a) mixed_on Go.Proofs.Try.func22 F22_comp rfl hn h
/-! (sandglass/best.Vec).Cmp -/
def F23r0 : List DOper := [
  ⟨(some 2), .alloc (.box (.tmp 0)), none⟩,
  ⟨(some 3), .alloc (.box (.tmp 1)), none⟩,
  ⟨(some 4), .light (.mov (.const (.int .i64 0))), none⟩]
def F23r1 : List DOper := [
  ⟨(some 5), .light (.fieldAddr 0 (.tmp 2)), none⟩,
  ⟨(some 6), .light (.load (some 4) (.tmp 5)), none⟩,
  ⟨(some 7), .light (.fieldAddr 0 (.tmp 3)), none⟩,
  ⟨(some 8), .light (.load (some 4) (.tmp 7)), none⟩,
  ⟨(some 9), .heavy (.call 10 [(.tmp 6), (.tmp 8)]), none⟩,
  ⟨(some 10), .light (.fieldAddr 4 (.tmp 2)), none⟩,
  ⟨(some 11), .light (.load none (.tmp 10)), none⟩,
  ⟨(some 12), .light (.fieldAddr 4 (.tmp 3)), none⟩,
  ⟨(some 13), .light (.load none (.tmp 12)), none⟩,
  ⟨(some 14), .heavy (.call 17 [(.tmp 11), (.tmp 13)]), none⟩,
  ⟨(some 15), .light (.fieldAddr 5 (.tmp 2)), none⟩,
  ⟨(some 16), .light (.load none (.tmp 15)), none⟩,
  ⟨(some 17), .light (.fieldAddr 5 (.tmp 3)), none⟩,
  ⟨(some 18), .light (.load none (.tmp 17)), none⟩,
  ⟨(some 19), .heavy (.call 17 [(.tmp 16), (.tmp 18)]), none⟩,
  ⟨(some 20), .light (.fieldAddr 6 (.tmp 2)), none⟩,
  ⟨(some 21), .light (.load none (.tmp 20)), none⟩,
  ⟨(some 22), .light (.fieldAddr 6 (.tmp 3)), none⟩,
  ⟨(some 23), .light (.load none (.tmp 22)), none⟩,
  ⟨(some 24), .heavy (.call 17 [(.tmp 21), (.tmp 23)]), none⟩,
  ⟨(some 25), .light (.fieldAddr 7 (.tmp 2)), none⟩,
  ⟨(some 26), .light (.load none (.tmp 25)), none⟩,
  ⟨(some 27), .light (.fieldAddr 7 (.tmp 3)), none⟩,
  ⟨(some 28), .light (.load none (.tmp 27)), none⟩,
  ⟨(some 29), .heavy (.call 17 [(.tmp 26), (.tmp 28)]), none⟩,
  ⟨(some 30), .alloc (.mkslice [(.int .i64 0), (.int .i64 0), (.int .i64 0), (.int .i64 0), (.int .i64 0)] 1 5 [(0, 1, (.tmp 9)), (1, 1, (.tmp 14)), (2, 1, (.tmp 19)), (3, 1, (.tmp 24)), (4, 1, (.tmp 29))]), none⟩,
  ⟨(some 31), .heavy (.call 16 [(.tmp 30)]), none⟩,
  ⟨(some 4), .light (.mov (.tmp 31)), none⟩]
def F23p1 : Plan := ⟨[.light 0, .light 1, .light 2, .light 3, .light 5, .light 6, .light 7, .light 8, .light 10, .light 11, .light 12, .light 13, .light 15, .light 16, .light 17, .light 18, .light 20, .light 21, .light 22, .light 23, .heavy 4 [] [23, 21, 18, 16, 13, 11, 8, 6], .heavy 9 [] [23, 21, 18, 16, 13, 11], .heavy 14 [] [23, 21, 18, 16], .heavy 19 [] [23, 21], .heavy 24 [] [], .light 25, .heavy 26 [25] [], .light 27], [25], [], [[], [0], [], [2], [0, 1, 2, 3], [], [5], [], [7], [0, 1, 2, 3, 4, 5, 6, 7, 8], [], [10], [], [12], [0, 1, 2, 3, 4, 5, 6, 7, 8, 9, 10, 11, 12, 13], [], [15], [], [17], [0, 1, 2, 3, 4, 5, 6, 7, 8, 9, 10, 11, 12, 13, 14, 15, 16, 17, 18], [], [20], [], [22], [0, 1, 2, 3, 4, 5, 6, 7, 8, 9, 10, 11, 12, 13, 14, 15, 16, 17, 18, 19, 20, 21, 22, 23], [0, 1, 2, 3, 4, 5, 6, 7, 8, 9, 10, 11, 12, 13, 14, 15, 16, 17, 18, 19, 20, 21, 22, 23, 24], [0, 1, 2, 3, 4, 5, 6, 7, 8, 9, 10, 11, 12, 13, 14, 15, 16, 17, 18, 19, 20, 21, 22, 23, 24, 25], [0, 1, 2, 3, 4, 5, 6, 7, 8, 9, 10, 11, 12, 13, 14, 15, 16, 17, 18, 19, 20, 21, 22, 23, 24, 25, 26]]⟩
def F23k1_1 : List DOper := [⟨(some 28), .light (.load none (.tmp 27)), none⟩, ⟨(some 26), .light (.load none (.tmp 25)), none⟩, ⟨(some 23), .light (.load none (.tmp 22)), none⟩, ⟨(some 21), .light (.load none (.tmp 20)), none⟩, ⟨(some 18), .light (.load none (.tmp 17)), none⟩, ⟨(some 16), .light (.load none (.tmp 15)), none⟩, ⟨(some 13), .light (.load none (.tmp 12)), none⟩, ⟨(some 11), .light (.load none (.tmp 10)), none⟩]
def F23k1_2 : List DOper := [⟨(some 28), .light (.load none (.tmp 27)), none⟩, ⟨(some 26), .light (.load none (.tmp 25)), none⟩, ⟨(some 23), .light (.load none (.tmp 22)), none⟩, ⟨(some 21), .light (.load none (.tmp 20)), none⟩, ⟨(some 18), .light (.load none (.tmp 17)), none⟩, ⟨(some 16), .light (.load none (.tmp 15)), none⟩]
def F23k1_3 : List DOper := [⟨(some 28), .light (.load none (.tmp 27)), none⟩, ⟨(some 26), .light (.load none (.tmp 25)), none⟩, ⟨(some 23), .light (.load none (.tmp 22)), none⟩, ⟨(some 21), .light (.load none (.tmp 20)), none⟩]
def F23k1_4 : List DOper := [⟨(some 28), .light (.load none (.tmp 27)), none⟩, ⟨(some 26), .light (.load none (.tmp 25)), none⟩]
def F23s1t6 : List RStep := [
  .light 1 ⟨(some 4), .light (.mov (.tmp 31)), none⟩]
def F23s1t5 : List RStep :=
  .light 0 ⟨(some 30), .alloc (.mkslice [(.int .i64 0), (.int .i64 0), (.int .i64 0), (.int .i64 0), (.int .i64 0)] 1 5 [(0, 1, (.tmp 9)), (1, 1, (.tmp 14)), (2, 1, (.tmp 19)), (3, 1, (.tmp 24)), (4, 1, (.tmp 29))]), none⟩ ::
  .heavy ⟨(some 31), .heavy (.call 16 [(.tmp 30)]), none⟩ [(0, ⟨(some 30), .alloc (.mkslice [(.int .i64 0), (.int .i64 0), (.int .i64 0), (.int .i64 0), (.int .i64 0)] 1 5 [(0, 1, (.tmp 9)), (1, 1, (.tmp 14)), (2, 1, (.tmp 19)), (3, 1, (.tmp 24)), (4, 1, (.tmp 29))]), none⟩)] [] ::
  F23s1t6
def F23s1t4 : List RStep :=
  .heavy ⟨(some 29), .heavy (.call 17 [(.tmp 26), (.tmp 28)]), none⟩ [] [] ::
  F23s1t5
def F23s1t3 : List RStep :=
  .heavy ⟨(some 24), .heavy (.call 17 [(.tmp 21), (.tmp 23)]), none⟩ [] F23k1_4 ::
  F23s1t4
def F23s1t2 : List RStep :=
  .heavy ⟨(some 19), .heavy (.call 17 [(.tmp 16), (.tmp 18)]), none⟩ [] F23k1_3 ::
  F23s1t3
def F23s1t1 : List RStep :=
  .heavy ⟨(some 14), .heavy (.call 17 [(.tmp 11), (.tmp 13)]), none⟩ [] F23k1_2 ::
  F23s1t2
def F23s1 : List RStep :=
  .light 1 ⟨(some 5), .light (.fieldAddr 0 (.tmp 2)), none⟩ ::
  .light 1 ⟨(some 6), .light (.load (some 4) (.tmp 5)), none⟩ ::
  .light 1 ⟨(some 7), .light (.fieldAddr 0 (.tmp 3)), none⟩ ::
  .light 1 ⟨(some 8), .light (.load (some 4) (.tmp 7)), none⟩ ::
  .light 1 ⟨(some 10), .light (.fieldAddr 4 (.tmp 2)), none⟩ ::
  .light 1 ⟨(some 11), .light (.load none (.tmp 10)), none⟩ ::
  .light 1 ⟨(some 12), .light (.fieldAddr 4 (.tmp 3)), none⟩ ::
  .light 1 ⟨(some 13), .light (.load none (.tmp 12)), none⟩ ::
  .light 1 ⟨(some 15), .light (.fieldAddr 5 (.tmp 2)), none⟩ ::
  .light 1 ⟨(some 16), .light (.load none (.tmp 15)), none⟩ ::
  .light 1 ⟨(some 17), .light (.fieldAddr 5 (.tmp 3)), none⟩ ::
  .light 1 ⟨(some 18), .light (.load none (.tmp 17)), none⟩ ::
  .light 1 ⟨(some 20), .light (.fieldAddr 6 (.tmp 2)), none⟩ ::
  .light 1 ⟨(some 21), .light (.load none (.tmp 20)), none⟩ ::
  .light 1 ⟨(some 22), .light (.fieldAddr 6 (.tmp 3)), none⟩ ::
  .light 1 ⟨(some 23), .light (.load none (.tmp 22)), none⟩ ::
  .light 1 ⟨(some 25), .light (.fieldAddr 7 (.tmp 2)), none⟩ ::
  .light 1 ⟨(some 26), .light (.load none (.tmp 25)), none⟩ ::
  .light 1 ⟨(some 27), .light (.fieldAddr 7 (.tmp 3)), none⟩ ::
  .light 1 ⟨(some 28), .light (.load none (.tmp 27)), none⟩ ::
  .heavy ⟨(some 9), .heavy (.call 10 [(.tmp 6), (.tmp 8)]), none⟩ [] F23k1_1 ::
  F23s1t1
theorem F23d1 {E : Env} {A : AHeap} {K : Exit → Env → AHeap → Prop} : wpC Go.Proofs.Try.prog (.draw F23r1 F23p1 [4]) E A K = wpD Go.Proofs.Try.prog [] A.next F23s1 E (A.reserve 1) fun E' A' => K .normal (E'.keep [4]) A' := wpC_res rfl rfl rfl
def F23c0 : DCode := (.seq (.draw F23r1 F23p1 [4]) .ret)
def F23 : DCode := (.seq (.row F23r0 [2, 3]) F23c0)
def F23a : Ann := (.two (.reg [2, 3] none) (.two (.reg [4] (some F23p1)) .nil []) [])
theorem F23_comp : Go.Proofs.Try.f23.body.bind (compC Go.Proofs.Try.prog 32 F23a) = some F23 := by kernel_rfl
theorem F23_call {args : List Value} (hn : args.length ≤ 32) {A : AHeap} {K : Value → AHeap → Prop} (h : wpC Go.Proofs.Try.prog F23 (enterE 0 args) A (endK [.tmp 4] K)) : dcall Go.Proofs.Try.prog 23 args A K :=
  dcall_by (fn := Go.Proofs.Try.f23) (ann := F23a) mixed_on Go.Proofs.Try.func23 F23_comp rfl hn h
/-! slices.Clone[[]sandglass/best.Heard,sandglass/best.Heard] -/
def F24r0 : List DOper := [
  ⟨(some 2), .light (.mov (.const (.slice none 0 0))), none⟩]
def F24r1 : List DOper := [
  ⟨(some 3), .light (.mov (.tmp 0)), none⟩,
  ⟨(some 4), .light (.bin .slice .eql (.tmp 3) (.const (.slice none 0 0))), none⟩]
def F24r2 : List DOper := [
  ⟨(some 2), .light (.mov (.const (.slice none 0 0))), none⟩]
def F24c0 : DCode := (.seq (.row F24r2 [2]) .ret)
def F24c1 : DCode := (.cond (.tmp 4) F24c0 .skip [0])
def F24r3 : List DOper := [
  ⟨(some 5), .alloc (.mkslice [] 10 0 []), none⟩,
  ⟨(some 6), .light (.mov (.tmp 0)), none⟩,
  ⟨(some 7), .heavy (.append 10 72 (.tmp 5) (.tmp 6)), none⟩,
  ⟨(some 2), .light (.mov (.tmp 7)), none⟩]
def F24c2 : DCode := (.seq (.row F24r3 [2]) .ret)
def F24c3 : DCode := (.seq (.seq (.row F24r1 [0, 4]) F24c1) F24c2)
def F24 : DCode := (.seq (.row F24r0 [0]) F24c3)
def F24a : Ann := (.two (.reg [0] none) (.two (.two (.reg [0, 4] none) (.two (.two (.reg [2] none) .nil []) .nil [0]) []) (.two (.reg [2] none) .nil []) []) [])
theorem F24_comp : Go.Proofs.Try.f24.body.bind (compC Go.Proofs.Try.prog 8 F24a) = some F24 := by kernel_rfl
theorem F24_call {args : List Value} (hn : args.length ≤ 8) {A : AHeap} {K : Value → AHeap → Prop} (h : wpC Go.Proofs.Try.prog F24 (enterE 0 args) A (endK [.tmp 2] K)) : dcall Go.Proofs.Try.prog 24 args A K :=
  dcall_by (fn := Go.Proofs.Try.f24) (ann := F24a) mixed_on Go.Proofs.Try.func24 F24_comp rfl hn h
/-! sandglass/sandglasslaw20.TreeForms -/
def F3r0 : List DOper := [
  ⟨(some 6), .light (.mov (.const (.bool false))), none⟩]
def F3r1t1 : List DOper := [
  ⟨(some 47), .light (.un .not (.tmp 46)), none⟩]
def F3r1 : List DOper :=
  ⟨(some 46), .heavy (.call 4 []), none⟩ ::
  F3r1t1
def F3r2 : List DOper := [
  ⟨(some 6), .light (.mov (.const (.bool false))), none⟩]
def F3c0 : DCode := (.seq (.row F3r2 [6]) .ret)
def F3c1 : DCode := (.cond (.tmp 47) F3c0 .skip [0, 1, 2])
def F3r3 : List DOper := [
  ⟨(some 48), .light (.mov (.tmp 0)), none⟩,
  ⟨(some 49), .light (.lenS (.tmp 48)), none⟩,
  ⟨(some 7), .light (.mov (.tmp 49)), none⟩]
def F3r4 : List DOper := [
  ⟨(some 50), .light (.mov (.tmp 7)), none⟩,
  ⟨(some 51), .light (.bin .int .lss (.tmp 50) (.const (.int .i64 1))), none⟩,
  ⟨(some 52), .light (.mov (.tmp 51)), none⟩,
  ⟨(some 53), .light (.mov (.tmp 7)), (some (52, false))⟩,
  ⟨(some 54), .light (.bin .int .gtr (.tmp 53) (.const (.int .i64 7))), (some (52, false))⟩,
  ⟨(some 55), .light (.pick (.tmp 52) (.const (.bool true)) (.tmp 54)), none⟩,
  ⟨(some 56), .light (.mov (.tmp 55)), none⟩,
  ⟨(some 57), .light (.mov (.tmp 1)), (some (56, false))⟩,
  ⟨(some 58), .light (.lenS (.tmp 57)), (some (56, false))⟩,
  ⟨(some 59), .light (.bin .int .gtr (.tmp 58) (.const (.int .i64 12))), (some (56, false))⟩,
  ⟨(some 60), .light (.pick (.tmp 56) (.const (.bool true)) (.tmp 59)), none⟩]
def F3r5 : List DOper := [
  ⟨(some 6), .light (.mov (.const (.bool true))), none⟩]
def F3c2 : DCode := (.seq (.row F3r5 [6]) .ret)
def F3c3 : DCode := (.cond (.tmp 60) F3c2 .skip [0, 1, 2, 7])
def F3r6 : List DOper := [
  ⟨(some 61), .alloc (.mkslice [] 1 0 []), none⟩,
  ⟨(some 8), .alloc (.alloc [(.slice none 0 0)]), none⟩,
  ⟨none, .heavy (.store 1 (.tmp 8) (.tmp 61)), none⟩]
def F3r7 : List DOper := [
  ⟨(some 62), .alloc (.mkslice [] 4 0 []), none⟩,
  ⟨(some 63), .light (.mov (.tmp 0)), none⟩,
  ⟨(some 64), .heavy (.append 4 32 (.tmp 62) (.tmp 63)), none⟩,
  ⟨(some 0), .light (.mov (.tmp 64)), none⟩]
def F3r8 : List DOper := [
  ⟨(some 65), .light (.mov (.tmp 0)), none⟩,
  ⟨(some 66), .light (.lenS (.tmp 65)), none⟩,
  ⟨(some 67), .light (.mov (.const (.int .i64 0))), none⟩]
def F3r9 : List DOper := [
  ⟨(some 68), .light (.bin .int .lss (.tmp 67) (.tmp 66)), none⟩]
def F3r10 : List DOper := [
  ⟨(some 69), .light (.mov (.tmp 67)), none⟩,
  ⟨(some 70), .light (.idxSl 4 (.tmp 65) (.tmp 67)), none⟩,
  ⟨(some 71), .light (.load (some 4) (.tmp 70)), none⟩,
  ⟨(some 10), .alloc (.alloc [(.int .i64 0), (.int .i64 0), (.int .i64 0), (.int .i64 0)]), none⟩,
  ⟨(some 9), .light (.mov (.tmp 69)), none⟩,
  ⟨none, .heavy (.store 4 (.tmp 10) (.tmp 71)), none⟩]
def F3r11 : List DOper := [
  ⟨(some 72), .light (.fieldAddr 0 (.tmp 10)), none⟩,
  ⟨(some 73), .light (.load none (.tmp 72)), none⟩,
  ⟨(some 74), .light (.bin .int .and (.tmp 73) (.const (.int .i64 3))), none⟩,
  ⟨(some 75), .light (.fieldAddr 1 (.tmp 10)), none⟩,
  ⟨(some 76), .light (.load none (.tmp 75)), none⟩,
  ⟨(some 77), .light (.bin .int .and (.tmp 76) (.const (.int .i64 1))), none⟩,
  ⟨(some 78), .light (.fieldAddr 2 (.tmp 10)), none⟩,
  ⟨(some 79), .light (.load none (.tmp 78)), none⟩,
  ⟨(some 80), .light (.bin .int .and (.tmp 79) (.const (.int .i64 1))), none⟩,
  ⟨(some 81), .light (.mov (.tmp 9)), none⟩,
  ⟨(some 82), .light (.bin .int .add (.const (.int .i64 10)) (.tmp 81)), none⟩,
  ⟨(some 83), .light (.build [(.int .i64 0), (.int .i64 0), (.int .i64 0), (.int .i64 0)] [(0, 1, (.tmp 74)), (1, 1, (.tmp 77)), (2, 1, (.tmp 80)), (3, 1, (.tmp 82))]), none⟩,
  ⟨none, .heavy (.store 4 (.tmp 10) (.tmp 83)), none⟩]
def F3r12 : List DOper := [
  ⟨(some 84), .light (.mov (.tmp 0)), none⟩,
  ⟨(some 85), .light (.mov (.tmp 9)), none⟩,
  ⟨(some 86), .light (.load (some 4) (.tmp 10)), none⟩,
  ⟨(some 87), .light (.idxSl 4 (.tmp 84) (.tmp 85)), none⟩,
  ⟨none, .heavy (.store 4 (.tmp 87) (.tmp 86)), none⟩]
def F3r13t1 : List DOper := [
  ⟨(some 88), .light (.mov (.tmp 90)), none⟩,
  ⟨(some 91), .light (.extract (.tmp 88) 0), none⟩,
  ⟨(some 92), .light (.extract (.tmp 88) 1), none⟩,
  ⟨(some 11), .light (.mov (.tmp 91)), none⟩,
  ⟨(some 12), .light (.mov (.tmp 92)), none⟩]
def F3r13 : List DOper :=
  ⟨(some 89), .light (.load (some 4) (.tmp 10)), none⟩ ::
  ⟨(some 90), .heavy (.call 5 [(.const (.int .i64 0)), (.tmp 89), (.const (.int .i64 8)), (.const (.int .i64 5))]), none⟩ ::
  F3r13t1
def F3r14 : List DOper := [
  ⟨(some 93), .light (.mov (.tmp 12)), none⟩,
  ⟨(some 94), .light (.bin .int .neq (.tmp 93) (.const (.int .i64 0))), none⟩]
def F3r15 : List DOper := [
  ⟨(some 6), .light (.mov (.const (.bool false))), none⟩]
def F3c4 : DCode := (.seq (.row F3r15 [6]) .ret)
def F3c5 : DCode := (.cond (.tmp 94) F3c4 .skip [0, 1, 2, 7, 8, 11, 65, 66, 67])
def F3r16 : List DOper := [
  ⟨(some 95), .light (.load none (.tmp 8)), none⟩,
  ⟨(some 96), .light (.mov (.tmp 11)), none⟩,
  ⟨(some 97), .alloc (.mkslice [(.pointer none)] 1 1 [(0, 1, (.tmp 96))]), none⟩,
  ⟨(some 98), .heavy (.append 1 8 (.tmp 95) (.tmp 97)), none⟩,
  ⟨none, .heavy (.store 1 (.tmp 8) (.tmp 98)), none⟩]
def F3c6 : DCode := (.row F3r16 [0, 1, 2, 7, 8, 65, 66, 67])
def F3c7 : DCode := (.seq (.seq (.row F3r14 [0, 1, 2, 7, 8, 11, 65, 66, 67, 94]) F3c5) F3c6)
def F3c8 : DCode := (.seq (.row F3r13 [0, 1, 2, 7, 8, 11, 12, 65, 66, 67]) F3c7)
def F3c9 : DCode := (.seq (.row F3r12 [0, 1, 2, 7, 8, 10, 65, 66, 67]) F3c8)
def F3c10 : DCode := (.seq (.row F3r11 [0, 1, 2, 7, 8, 9, 10, 65, 66, 67]) F3c9)
def F3c11 : DCode := (.seq (.row F3r10 [0, 1, 2, 7, 8, 9, 10, 65, 66, 67]) F3c10)
def F3r17 : List DOper := [
  ⟨(some 99), .light (.bin .int .add (.tmp 67) (.const (.int .i64 1))), none⟩,
  ⟨(some 67), .light (.mov (.tmp 99)), none⟩]
def F3c12 : DCode := (.row F3r17 [0, 1, 2, 7, 8, 65, 66, 67])
def F3c13 : DCode := (.seq (.block 1 F3c11 [0, 1, 2, 7, 8, 65, 66, 67]) F3c12)
def F3c14 : DCode := (.seq (.cond (.tmp 68) .skip (.exit 0) [0, 1, 2, 7, 8, 65, 66, 67]) F3c13)
def F3c15 : DCode := (.seq (.row F3r9 [0, 1, 2, 7, 8, 65, 66, 67, 68]) F3c14)
def F3c16 : DCode := (.loop F3c15)
def F3c17 : DCode := (.block 0 F3c16 [0, 1, 2, 7, 8])
def F3r18 : List DOper := [
  ⟨(some 100), .light (.mov (.tmp 7)), none⟩,
  ⟨(some 101), .alloc (.makeslice [(.int .i64 0)] 1 8 (.tmp 100) (.tmp 100)), none⟩,
  ⟨(some 13), .light (.mov (.tmp 101)), none⟩]
def F3r19 : List DOper := [
  ⟨(some 102), .alloc (.mkslice [] 4 0 []), none⟩,
  ⟨(some 14), .alloc (.alloc [(.slice none 0 0)]), none⟩,
  ⟨none, .heavy (.store 1 (.tmp 14) (.tmp 102)), none⟩]
def F3r20 : List DOper := [
  ⟨(some 103), .light (.mov (.tmp 1)), none⟩,
  ⟨(some 104), .light (.lenS (.tmp 103)), none⟩,
  ⟨(some 105), .light (.mov (.const (.int .i64 0))), none⟩]
def F3r21 : List DOper := [
  ⟨(some 106), .light (.bin .int .lss (.tmp 105) (.tmp 104)), none⟩]
def F3r22 : List DOper := [
  ⟨(some 107), .light (.idxSl 2 (.tmp 103) (.tmp 105)), none⟩,
  ⟨(some 108), .light (.load (some 2) (.tmp 107)), none⟩,
  ⟨(some 16), .alloc (.alloc [(.int .i64 0), (.int .i64 0)]), none⟩,
  ⟨none, .heavy (.store 2 (.tmp 16) (.tmp 108)), none⟩]
def F3r23 : List DOper := [
  ⟨(some 109), .light (.idxArr 2 1 (.tmp 16) (.const (.int .i64 0))), none⟩,
  ⟨(some 110), .light (.load none (.tmp 109)), none⟩,
  ⟨(some 111), .light (.bin .int .and (.tmp 110) (.const (.int .i64 1023))), none⟩,
  ⟨(some 112), .light (.mov (.tmp 7)), none⟩,
  ⟨(some 113), .light (.bin .int .rem (.tmp 111) (.tmp 112)), none⟩,
  ⟨(some 17), .light (.mov (.tmp 113)), none⟩]
def F3r24 : List DOper := [
  ⟨(some 114), .light (.idxArr 2 1 (.tmp 16) (.const (.int .i64 1))), none⟩,
  ⟨(some 115), .light (.load none (.tmp 114)), none⟩,
  ⟨(some 116), .light (.bin .int .and (.tmp 115) (.const (.int .i64 1023))), none⟩,
  ⟨(some 117), .light (.mov (.tmp 7)), none⟩,
  ⟨(some 118), .light (.bin .int .rem (.tmp 116) (.tmp 117)), none⟩,
  ⟨(some 18), .light (.mov (.tmp 118)), none⟩]
def F3r25 : List DOper := [
  ⟨(some 119), .light (.mov (.tmp 17)), none⟩,
  ⟨(some 120), .light (.mov (.tmp 18)), none⟩,
  ⟨(some 121), .light (.bin .int .eql (.tmp 119) (.tmp 120)), none⟩,
  ⟨(some 122), .light (.mov (.tmp 121)), none⟩,
  ⟨(some 123), .light (.mov (.tmp 13)), (some (122, false))⟩,
  ⟨(some 124), .light (.mov (.tmp 17)), (some (122, false))⟩,
  ⟨(some 125), .light (.idxSl 1 (.tmp 123) (.tmp 124)), (some (122, false))⟩,
  ⟨(some 126), .light (.load none (.tmp 125)), (some (122, false))⟩,
  ⟨(some 127), .light (.bin .int .eql (.tmp 126) (.const (.int .i64 8))), (some (122, false))⟩,
  ⟨(some 128), .light (.pick (.tmp 122) (.const (.bool true)) (.tmp 127)), none⟩,
  ⟨(some 129), .light (.mov (.tmp 128)), none⟩,
  ⟨(some 130), .light (.mov (.tmp 13)), (some (129, false))⟩,
  ⟨(some 131), .light (.mov (.tmp 18)), (some (129, false))⟩,
  ⟨(some 132), .light (.idxSl 1 (.tmp 130) (.tmp 131)), (some (129, false))⟩,
  ⟨(some 133), .light (.load none (.tmp 132)), (some (129, false))⟩,
  ⟨(some 134), .light (.bin .int .eql (.tmp 133) (.const (.int .i64 8))), (some (129, false))⟩,
  ⟨(some 135), .light (.pick (.tmp 129) (.const (.bool true)) (.tmp 134)), none⟩]
def F3c18 : DCode := (.cond (.tmp 135) (.exit 3) .skip [0, 2, 7, 8, 13, 14, 17, 18, 103, 104, 105])
def F3r26 : List DOper := [
  ⟨(some 136), .light (.load none (.tmp 14)), none⟩,
  ⟨(some 137), .light (.mov (.tmp 17)), none⟩,
  ⟨(some 138), .light (.mov (.tmp 13)), none⟩,
  ⟨(some 139), .light (.mov (.tmp 17)), none⟩,
  ⟨(some 140), .light (.idxSl 1 (.tmp 138) (.tmp 139)), none⟩,
  ⟨(some 141), .light (.load none (.tmp 140)), none⟩,
  ⟨(some 142), .light (.build [(.int .i64 0), (.int .i64 0)] [(0, 1, (.tmp 137)), (1, 1, (.tmp 141))]), none⟩,
  ⟨(some 143), .light (.mov (.tmp 18)), none⟩,
  ⟨(some 144), .light (.mov (.tmp 13)), none⟩,
  ⟨(some 145), .light (.mov (.tmp 18)), none⟩,
  ⟨(some 146), .light (.idxSl 1 (.tmp 144) (.tmp 145)), none⟩,
  ⟨(some 147), .light (.load none (.tmp 146)), none⟩,
  ⟨(some 148), .light (.build [(.int .i64 0), (.int .i64 0)] [(0, 1, (.tmp 143)), (1, 1, (.tmp 147))]), none⟩,
  ⟨(some 149), .light (.build [(.int .i64 0), (.int .i64 0), (.int .i64 0), (.int .i64 0)] [(0, 2, (.tmp 142)), (2, 2, (.tmp 148))]), none⟩,
  ⟨(some 150), .alloc (.mkslice [(.int .i64 0), (.int .i64 0), (.int .i64 0), (.int .i64 0)] 4 1 [(0, 4, (.tmp 149))]), none⟩,
  ⟨(some 151), .heavy (.append 4 32 (.tmp 136) (.tmp 150)), none⟩,
  ⟨none, .heavy (.store 1 (.tmp 14) (.tmp 151)), none⟩]
def F3p26 : Plan := ⟨[.light 0, .light 1, .light 2, .light 3, .light 4, .light 5, .light 6, .light 7, .light 8, .light 9, .light 10, .light 11, .light 12, .light 13, .light 14, .heavy 15 [14] [], .heavy 16 [] []], [14], [], [[], [], [], [], [2, 3], [2, 3, 4], [1, 2, 3, 4, 5], [], [], [], [8, 9], [8, 9, 10], [7, 8, 9, 10, 11], [1, 2, 3, 4, 5, 6, 7, 8, 9, 10, 11, 12], [1, 2, 3, 4, 5, 6, 7, 8, 9, 10, 11, 12, 13], [0, 1, 2, 3, 4, 5, 6, 7, 8, 9, 10, 11, 12, 13, 14], [0, 1, 2, 3, 4, 5, 6, 7, 8, 9, 10, 11, 12, 13, 14, 15]]⟩
def F3s26 : List RStep := [
  .light 1 ⟨(some 136), .light (.load none (.tmp 14)), none⟩,
  .light 1 ⟨(some 137), .light (.mov (.tmp 17)), none⟩,
  .light 1 ⟨(some 138), .light (.mov (.tmp 13)), none⟩,
  .light 1 ⟨(some 139), .light (.mov (.tmp 17)), none⟩,
  .light 1 ⟨(some 140), .light (.idxSl 1 (.tmp 138) (.tmp 139)), none⟩,
  .light 1 ⟨(some 141), .light (.load none (.tmp 140)), none⟩,
  .light 1 ⟨(some 142), .light (.build [(.int .i64 0), (.int .i64 0)] [(0, 1, (.tmp 137)), (1, 1, (.tmp 141))]), none⟩,
  .light 1 ⟨(some 143), .light (.mov (.tmp 18)), none⟩,
  .light 1 ⟨(some 144), .light (.mov (.tmp 13)), none⟩,
  .light 1 ⟨(some 145), .light (.mov (.tmp 18)), none⟩,
  .light 1 ⟨(some 146), .light (.idxSl 1 (.tmp 144) (.tmp 145)), none⟩,
  .light 1 ⟨(some 147), .light (.load none (.tmp 146)), none⟩,
  .light 1 ⟨(some 148), .light (.build [(.int .i64 0), (.int .i64 0)] [(0, 1, (.tmp 143)), (1, 1, (.tmp 147))]), none⟩,
  .light 1 ⟨(some 149), .light (.build [(.int .i64 0), (.int .i64 0), (.int .i64 0), (.int .i64 0)] [(0, 2, (.tmp 142)), (2, 2, (.tmp 148))]), none⟩,
  .light 0 ⟨(some 150), .alloc (.mkslice [(.int .i64 0), (.int .i64 0), (.int .i64 0), (.int .i64 0)] 4 1 [(0, 4, (.tmp 149))]), none⟩,
  .heavy ⟨(some 151), .heavy (.append 4 32 (.tmp 136) (.tmp 150)), none⟩ [(0, ⟨(some 150), .alloc (.mkslice [(.int .i64 0), (.int .i64 0), (.int .i64 0), (.int .i64 0)] 4 1 [(0, 4, (.tmp 149))]), none⟩)] [],
  .heavy ⟨none, .heavy (.store 1 (.tmp 14) (.tmp 151)), none⟩ [] []]
theorem F3d26 {E : Env} {A : AHeap} {K : Exit → Env → AHeap → Prop} : wpC Go.Proofs.Try.prog (.draw F3r26 F3p26 [0, 2, 7, 8, 13, 14, 17, 18, 103, 104, 105]) E A K = wpD Go.Proofs.Try.prog [] A.next F3s26 E (A.reserve 1) fun E' A' => K .normal (E'.keep [0, 2, 7, 8, 13, 14, 17, 18, 103, 104, 105]) A' := wpC_res rfl rfl rfl
def F3r27 : List DOper := [
  ⟨(some 152), .light (.load none (.tmp 8)), none⟩,
  ⟨(some 153), .light (.mov (.tmp 17)), none⟩,
  ⟨(some 154), .light (.idxSl 1 (.tmp 152) (.tmp 153)), none⟩,
  ⟨(some 155), .light (.load none (.tmp 154)), none⟩,
  ⟨(some 156), .light (.mov (.tmp 13)), none⟩,
  ⟨(some 157), .light (.mov (.tmp 17)), none⟩,
  ⟨(some 158), .light (.idxSl 1 (.tmp 156) (.tmp 157)), none⟩,
  ⟨(some 159), .light (.load none (.tmp 158)), none⟩,
  ⟨(some 160), .heavy (.call 6 [(.tmp 155), (.tmp 159), (.const (.bool true))]), none⟩]
def F3p27 : Plan := ⟨[.light 0, .light 1, .light 2, .light 3, .light 4, .light 5, .light 6, .light 7, .heavy 8 [] []], [], [], [[], [], [0, 1], [0, 1, 2], [], [], [4, 5], [4, 5, 6], [0, 1, 2, 3, 4, 5, 6, 7]]⟩
def F3s27t1 : List RStep := [
  ]
def F3s27 : List RStep :=
  .light 0 ⟨(some 152), .light (.load none (.tmp 8)), none⟩ ::
  .light 0 ⟨(some 153), .light (.mov (.tmp 17)), none⟩ ::
  .light 0 ⟨(some 154), .light (.idxSl 1 (.tmp 152) (.tmp 153)), none⟩ ::
  .light 0 ⟨(some 155), .light (.load none (.tmp 154)), none⟩ ::
  .light 0 ⟨(some 156), .light (.mov (.tmp 13)), none⟩ ::
  .light 0 ⟨(some 157), .light (.mov (.tmp 17)), none⟩ ::
  .light 0 ⟨(some 158), .light (.idxSl 1 (.tmp 156) (.tmp 157)), none⟩ ::
  .light 0 ⟨(some 159), .light (.load none (.tmp 158)), none⟩ ::
  .heavy ⟨(some 160), .heavy (.call 6 [(.tmp 155), (.tmp 159), (.const (.bool true))]), none⟩ [] [] ::
  F3s27t1
theorem F3d27 {E : Env} {A : AHeap} {K : Exit → Env → AHeap → Prop} : wpC Go.Proofs.Try.prog (.draw F3r27 F3p27 [0, 2, 7, 8, 13, 14, 17, 18, 103, 104, 105]) E A K = wpD Go.Proofs.Try.prog [] A.next F3s27 E (A.reserve 0) fun E' A' => K .normal (E'.keep [0, 2, 7, 8, 13, 14, 17, 18, 103, 104, 105]) A' := wpC_res rfl rfl rfl
def F3r28 : List DOper := [
  ⟨(some 161), .light (.load none (.tmp 8)), none⟩,
  ⟨(some 162), .light (.mov (.tmp 18)), none⟩,
  ⟨(some 163), .light (.idxSl 1 (.tmp 161) (.tmp 162)), none⟩,
  ⟨(some 164), .light (.load none (.tmp 163)), none⟩,
  ⟨(some 165), .light (.mov (.tmp 13)), none⟩,
  ⟨(some 166), .light (.mov (.tmp 18)), none⟩,
  ⟨(some 167), .light (.idxSl 1 (.tmp 165) (.tmp 166)), none⟩,
  ⟨(some 168), .light (.load none (.tmp 167)), none⟩,
  ⟨(some 169), .heavy (.call 6 [(.tmp 164), (.tmp 168), (.const (.bool true))]), none⟩]
def F3p28 : Plan := ⟨[.light 0, .light 1, .light 2, .light 3, .light 4, .light 5, .light 6, .light 7, .heavy 8 [] []], [], [], [[], [], [0, 1], [0, 1, 2], [], [], [4, 5], [4, 5, 6], [0, 1, 2, 3, 4, 5, 6, 7]]⟩
def F3s28t1 : List RStep := [
  ]
def F3s28 : List RStep :=
  .light 0 ⟨(some 161), .light (.load none (.tmp 8)), none⟩ ::
  .light 0 ⟨(some 162), .light (.mov (.tmp 18)), none⟩ ::
  .light 0 ⟨(some 163), .light (.idxSl 1 (.tmp 161) (.tmp 162)), none⟩ ::
  .light 0 ⟨(some 164), .light (.load none (.tmp 163)), none⟩ ::
  .light 0 ⟨(some 165), .light (.mov (.tmp 13)), none⟩ ::
  .light 0 ⟨(some 166), .light (.mov (.tmp 18)), none⟩ ::
  .light 0 ⟨(some 167), .light (.idxSl 1 (.tmp 165) (.tmp 166)), none⟩ ::
  .light 0 ⟨(some 168), .light (.load none (.tmp 167)), none⟩ ::
  .heavy ⟨(some 169), .heavy (.call 6 [(.tmp 164), (.tmp 168), (.const (.bool true))]), none⟩ [] [] ::
  F3s28t1
theorem F3d28 {E : Env} {A : AHeap} {K : Exit → Env → AHeap → Prop} : wpC Go.Proofs.Try.prog (.draw F3r28 F3p28 [0, 2, 7, 8, 13, 14, 17, 18, 103, 104, 105]) E A K = wpD Go.Proofs.Try.prog [] A.next F3s28 E (A.reserve 0) fun E' A' => K .normal (E'.keep [0, 2, 7, 8, 13, 14, 17, 18, 103, 104, 105]) A' := wpC_res rfl rfl rfl
def F3r29 : List DOper := [
  ⟨(some 170), .light (.mov (.tmp 13)), none⟩,
  ⟨(some 171), .light (.mov (.tmp 17)), none⟩,
  ⟨(some 172), .light (.idxSl 1 (.tmp 170) (.tmp 171)), none⟩,
  ⟨(some 173), .light (.load none (.tmp 172)), none⟩,
  ⟨(some 174), .light (.bin .int .add (.tmp 173) (.const (.int .i64 1))), none⟩,
  ⟨(some 175), .light (.idxSl 1 (.tmp 170) (.tmp 171)), none⟩,
  ⟨none, .heavy (.store 1 (.tmp 175) (.tmp 174)), none⟩]
def F3r30 : List DOper := [
  ⟨(some 176), .light (.mov (.tmp 13)), none⟩,
  ⟨(some 177), .light (.mov (.tmp 18)), none⟩,
  ⟨(some 178), .light (.idxSl 1 (.tmp 176) (.tmp 177)), none⟩,
  ⟨(some 179), .light (.load none (.tmp 178)), none⟩,
  ⟨(some 180), .light (.bin .int .add (.tmp 179) (.const (.int .i64 1))), none⟩,
  ⟨(some 181), .light (.idxSl 1 (.tmp 176) (.tmp 177)), none⟩,
  ⟨none, .heavy (.store 1 (.tmp 181) (.tmp 180)), none⟩]
def F3c19 : DCode := (.row F3r30 [0, 2, 7, 8, 13, 14, 103, 104, 105])
def F3c20 : DCode := (.seq (.row F3r29 [0, 2, 7, 8, 13, 14, 18, 103, 104, 105]) F3c19)
def F3c21 : DCode := (.seq (.draw F3r28 F3p28 [0, 2, 7, 8, 13, 14, 17, 18, 103, 104, 105]) F3c20)
def F3c22 : DCode := (.seq (.draw F3r27 F3p27 [0, 2, 7, 8, 13, 14, 17, 18, 103, 104, 105]) F3c21)
def F3c23 : DCode := (.seq (.draw F3r26 F3p26 [0, 2, 7, 8, 13, 14, 17, 18, 103, 104, 105]) F3c22)
def F3c24 : DCode := (.seq (.seq (.row F3r25 [0, 2, 7, 8, 13, 14, 17, 18, 103, 104, 105, 135]) F3c18) F3c23)
def F3c25 : DCode := (.seq (.row F3r24 [0, 2, 7, 8, 13, 14, 17, 18, 103, 104, 105]) F3c24)
def F3c26 : DCode := (.seq (.row F3r23 [0, 2, 7, 8, 13, 14, 16, 17, 103, 104, 105]) F3c25)
def F3c27 : DCode := (.seq (.row F3r22 [0, 2, 7, 8, 13, 14, 16, 103, 104, 105]) F3c26)
def F3r31 : List DOper := [
  ⟨(some 182), .light (.bin .int .add (.tmp 105) (.const (.int .i64 1))), none⟩,
  ⟨(some 105), .light (.mov (.tmp 182)), none⟩]
def F3c28 : DCode := (.row F3r31 [0, 2, 7, 8, 13, 14, 103, 104, 105])
def F3c29 : DCode := (.seq (.block 3 F3c27 [0, 2, 7, 8, 13, 14, 103, 104, 105]) F3c28)
def F3c30 : DCode := (.seq (.cond (.tmp 106) .skip (.exit 2) [0, 2, 7, 8, 13, 14, 103, 104, 105]) F3c29)
def F3c31 : DCode := (.seq (.row F3r21 [0, 2, 7, 8, 13, 14, 103, 104, 105, 106]) F3c30)
def F3c32 : DCode := (.loop F3c31)
def F3c33 : DCode := (.block 2 F3c32 [0, 2, 7, 8, 14])
def F3r32 : List DOper := [
  ⟨(some 19), .light (.mov (.const (.int .i64 0))), none⟩]
def F3r33 : List DOper := [
  ⟨(some 183), .light (.mov (.tmp 19)), none⟩,
  ⟨(some 184), .light (.mov (.tmp 2)), none⟩,
  ⟨(some 185), .light (.lenS (.tmp 184)), none⟩,
  ⟨(some 186), .light (.bin .int .lss (.tmp 183) (.tmp 185)), none⟩,
  ⟨(some 187), .light (.mov (.tmp 186)), none⟩,
  ⟨(some 188), .light (.mov (.tmp 19)), (some (187, true))⟩,
  ⟨(some 189), .light (.bin .int .lss (.tmp 188) (.const (.int .i64 10))), (some (187, true))⟩,
  ⟨(some 190), .light (.pick (.tmp 187) (.tmp 189) (.const (.bool false))), none⟩]
def F3c34 : DCode := (.cond (.tmp 190) .skip (.exit 4) [0, 2, 7, 8, 14, 19])
def F3r34 : List DOper := [
  ⟨(some 193), .light (.mov (.tmp 2)), none⟩,
  ⟨(some 194), .light (.mov (.tmp 19)), none⟩,
  ⟨(some 195), .light (.idxSl 21 (.tmp 193) (.tmp 194)), none⟩,
  ⟨(some 196), .light (.fieldAddr 2 (.tmp 195)), none⟩,
  ⟨(some 197), .light (.fieldAddr 15 (.tmp 196)), none⟩,
  ⟨(some 198), .light (.load none (.tmp 197)), none⟩,
  ⟨(some 199), .light (.lenS (.tmp 198)), none⟩,
  ⟨(some 200), .light (.bin .int .leq (.tmp 199) (.const (.int .i64 40))), none⟩]
def F3r35 : List DOper := [
  ⟨(some 201), .light (.load none (.tmp 8)), none⟩,
  ⟨(some 202), .light (.mov (.tmp 2)), none⟩,
  ⟨(some 203), .light (.mov (.tmp 19)), none⟩,
  ⟨(some 204), .light (.idxSl 21 (.tmp 202) (.tmp 203)), none⟩,
  ⟨(some 205), .light (.fieldAddr 20 (.tmp 204)), none⟩,
  ⟨(some 206), .light (.load none (.tmp 205)), none⟩,
  ⟨(some 207), .light (.bin .int .and (.tmp 206) (.const (.int .i64 1023))), none⟩,
  ⟨(some 208), .light (.mov (.tmp 7)), none⟩,
  ⟨(some 209), .light (.bin .int .rem (.tmp 207) (.tmp 208)), none⟩,
  ⟨(some 210), .light (.idxSl 1 (.tmp 201) (.tmp 209)), none⟩,
  ⟨(some 211), .light (.load none (.tmp 210)), none⟩,
  ⟨(some 212), .light (.mov (.tmp 2)), none⟩,
  ⟨(some 213), .light (.mov (.tmp 19)), none⟩,
  ⟨(some 214), .light (.idxSl 21 (.tmp 212) (.tmp 213)), none⟩,
  ⟨(some 215), .light (.fieldAddr 1 (.tmp 214)), none⟩,
  ⟨(some 216), .light (.load none (.tmp 215)), none⟩,
  ⟨(some 217), .light (.mov (.tmp 2)), none⟩,
  ⟨(some 218), .light (.mov (.tmp 19)), none⟩,
  ⟨(some 219), .light (.idxSl 21 (.tmp 217) (.tmp 218)), none⟩,
  ⟨(some 220), .light (.fieldAddr 2 (.tmp 219)), none⟩,
  ⟨(some 221), .light (.load (some 16) (.tmp 220)), none⟩,
  ⟨(some 222), .heavy (.call 7 [(.tmp 211), (.tmp 216), (.tmp 221), (.const (.int .i64 0))]), none⟩]
def F3p35 : Plan := ⟨[.light 0, .light 1, .light 2, .light 3, .light 4, .light 5, .light 6, .light 7, .light 8, .light 9, .light 10, .light 11, .light 12, .light 13, .light 14, .light 15, .light 16, .light 17, .light 18, .light 19, .light 20, .heavy 21 [] []], [], [], [[], [], [], [1, 2], [1, 2, 3], [1, 2, 3, 4], [1, 2, 3, 4, 5], [], [1, 2, 3, 4, 5, 6, 7], [0, 1, 2, 3, 4, 5, 6, 7, 8], [0, 1, 2, 3, 4, 5, 6, 7, 8, 9], [], [], [11, 12], [11, 12, 13], [11, 12, 13, 14], [], [], [16, 17], [16, 17, 18], [16, 17, 18, 19], [0, 1, 2, 3, 4, 5, 6, 7, 8, 9, 10, 11, 12, 13, 14, 15, 16, 17, 18, 19, 20]]⟩
def F3s35t1 : List RStep := [
  ]
def F3s35 : List RStep :=
  .light 0 ⟨(some 201), .light (.load none (.tmp 8)), none⟩ ::
  .light 0 ⟨(some 202), .light (.mov (.tmp 2)), none⟩ ::
  .light 0 ⟨(some 203), .light (.mov (.tmp 19)), none⟩ ::
  .light 0 ⟨(some 204), .light (.idxSl 21 (.tmp 202) (.tmp 203)), none⟩ ::
  .light 0 ⟨(some 205), .light (.fieldAddr 20 (.tmp 204)), none⟩ ::
  .light 0 ⟨(some 206), .light (.load none (.tmp 205)), none⟩ ::
  .light 0 ⟨(some 207), .light (.bin .int .and (.tmp 206) (.const (.int .i64 1023))), none⟩ ::
  .light 0 ⟨(some 208), .light (.mov (.tmp 7)), none⟩ ::
  .light 0 ⟨(some 209), .light (.bin .int .rem (.tmp 207) (.tmp 208)), none⟩ ::
  .light 0 ⟨(some 210), .light (.idxSl 1 (.tmp 201) (.tmp 209)), none⟩ ::
  .light 0 ⟨(some 211), .light (.load none (.tmp 210)), none⟩ ::
  .light 0 ⟨(some 212), .light (.mov (.tmp 2)), none⟩ ::
  .light 0 ⟨(some 213), .light (.mov (.tmp 19)), none⟩ ::
  .light 0 ⟨(some 214), .light (.idxSl 21 (.tmp 212) (.tmp 213)), none⟩ ::
  .light 0 ⟨(some 215), .light (.fieldAddr 1 (.tmp 214)), none⟩ ::
  .light 0 ⟨(some 216), .light (.load none (.tmp 215)), none⟩ ::
  .light 0 ⟨(some 217), .light (.mov (.tmp 2)), none⟩ ::
  .light 0 ⟨(some 218), .light (.mov (.tmp 19)), none⟩ ::
  .light 0 ⟨(some 219), .light (.idxSl 21 (.tmp 217) (.tmp 218)), none⟩ ::
  .light 0 ⟨(some 220), .light (.fieldAddr 2 (.tmp 219)), none⟩ ::
  .light 0 ⟨(some 221), .light (.load (some 16) (.tmp 220)), none⟩ ::
  .heavy ⟨(some 222), .heavy (.call 7 [(.tmp 211), (.tmp 216), (.tmp 221), (.const (.int .i64 0))]), none⟩ [] [] ::
  F3s35t1
theorem F3d35 {E : Env} {A : AHeap} {K : Exit → Env → AHeap → Prop} : wpC Go.Proofs.Try.prog (.draw F3r35 F3p35 [0, 2, 7, 8, 14, 19]) E A K = wpD Go.Proofs.Try.prog [] A.next F3s35 E (A.reserve 0) fun E' A' => K .normal (E'.keep [0, 2, 7, 8, 14, 19]) A' := wpC_res rfl rfl rfl
def F3c35 : DCode := (.draw F3r35 F3p35 [0, 2, 7, 8, 14, 19])
def F3c36 : DCode := (.cond (.tmp 200) F3c35 .skip [0, 2, 7, 8, 14, 19])
def F3c37 : DCode := (.seq (.row F3r34 [0, 2, 7, 8, 14, 19, 200]) F3c36)
def F3r36 : List DOper := [
  ⟨(some 191), .light (.mov (.tmp 19)), none⟩,
  ⟨(some 192), .light (.bin .int .add (.tmp 191) (.const (.int .i64 1))), none⟩,
  ⟨(some 19), .light (.mov (.tmp 192)), none⟩]
def F3c38 : DCode := (.row F3r36 [0, 2, 7, 8, 14, 19])
def F3c39 : DCode := (.seq (.block 5 F3c37 [0, 2, 7, 8, 14, 19]) F3c38)
def F3c40 : DCode := (.seq (.seq (.row F3r33 [0, 2, 7, 8, 14, 19, 190]) F3c34) F3c39)
def F3c41 : DCode := (.loop F3c40)
def F3c42 : DCode := (.block 4 F3c41 [0, 7, 8, 14])
def F3r37 : List DOper := [
  ⟨(some 223), .light (.mkfunc (.func 8) [(.tmp 14), (.tmp 8)]), none⟩,
  ⟨(some 20), .light (.mov (.tmp 223)), none⟩]
def F3r38 : List DOper := [
  ⟨(some 21), .light (.mov (.const (.int .i64 1))), none⟩]
def F3r39 : List DOper := [
  ⟨(some 224), .light (.mov (.tmp 21)), none⟩,
  ⟨(some 225), .light (.mov (.tmp 7)), none⟩,
  ⟨(some 226), .light (.bin .int .add (.tmp 225) (.const (.int .i64 2))), none⟩,
  ⟨(some 227), .light (.bin .int .mul (.const (.int .i64 8)) (.tmp 226)), none⟩,
  ⟨(some 228), .light (.bin .int .leq (.tmp 224) (.tmp 227)), none⟩]
def F3c43 : DCode := (.cond (.tmp 228) .skip (.exit 6) [0, 7, 8, 14, 20, 21])
def F3r40t1 : List DOper := [
  ⟨(some 234), .light (.un .not (.tmp 233)), none⟩]
def F3r40 : List DOper :=
  ⟨(some 231), .light (.mov (.tmp 20)), none⟩ ::
  ⟨(some 232), .light (.mov (.tmp 21)), none⟩ ::
  ⟨(some 233), .heavy (.callv (.tmp 231) [(.tmp 232)]), none⟩ ::
  F3r40t1
def F3r41 : List DOper := [
  ⟨(some 6), .light (.mov (.const (.bool false))), none⟩]
def F3c44 : DCode := (.seq (.row F3r41 [6]) .ret)
def F3c45 : DCode := (.cond (.tmp 234) F3c44 .skip [0, 7, 8, 14, 20, 21])
def F3c46 : DCode := (.seq (.row F3r40 [0, 7, 8, 14, 20, 21, 234]) F3c45)
def F3r42 : List DOper := [
  ⟨(some 229), .light (.mov (.tmp 21)), none⟩,
  ⟨(some 230), .light (.bin .int .add (.tmp 229) (.const (.int .i64 1))), none⟩,
  ⟨(some 21), .light (.mov (.tmp 230)), none⟩]
def F3c47 : DCode := (.row F3r42 [0, 7, 8, 14, 20, 21])
def F3c48 : DCode := (.seq (.block 7 F3c46 [0, 7, 8, 14, 20, 21]) F3c47)
def F3c49 : DCode := (.seq (.seq (.row F3r39 [0, 7, 8, 14, 20, 21, 228]) F3c43) F3c48)
def F3c50 : DCode := (.loop F3c49)
def F3r43 : List DOper := [
  ⟨(some 235), .light (.mov (.tmp 7)), none⟩,
  ⟨(some 236), .alloc (.makeslice [(.int .i64 0)] 1 8 (.tmp 235) (.tmp 235)), none⟩,
  ⟨(some 22), .light (.mov (.tmp 236)), none⟩]
def F3r44 : List DOper := [
  ⟨(some 237), .light (.mov (.tmp 22)), none⟩,
  ⟨(some 238), .light (.lenS (.tmp 237)), none⟩,
  ⟨(some 239), .light (.mov (.const (.int .i64 0))), none⟩]
def F3r45 : List DOper := [
  ⟨(some 240), .light (.bin .int .lss (.tmp 239) (.tmp 238)), none⟩]
def F3r46 : List DOper := [
  ⟨(some 241), .light (.mov (.tmp 239)), none⟩,
  ⟨(some 23), .light (.mov (.tmp 241)), none⟩]
def F3r47 : List DOper := [
  ⟨(some 242), .light (.mov (.tmp 22)), none⟩,
  ⟨(some 243), .light (.mov (.tmp 23)), none⟩,
  ⟨(some 244), .light (.mov (.tmp 23)), none⟩,
  ⟨(some 245), .light (.idxSl 1 (.tmp 242) (.tmp 243)), none⟩,
  ⟨none, .heavy (.store 1 (.tmp 245) (.tmp 244)), none⟩]
def F3c51 : DCode := (.row F3r47 [0, 7, 8, 14, 20, 21, 22, 238, 239])
def F3c52 : DCode := (.seq (.row F3r46 [0, 7, 8, 14, 20, 21, 22, 23, 238, 239]) F3c51)
def F3r48 : List DOper := [
  ⟨(some 246), .light (.bin .int .add (.tmp 239) (.const (.int .i64 1))), none⟩,
  ⟨(some 239), .light (.mov (.tmp 246)), none⟩]
def F3c53 : DCode := (.row F3r48 [0, 7, 8, 14, 20, 21, 22, 238, 239])
def F3c54 : DCode := (.seq (.block 9 F3c52 [0, 7, 8, 14, 20, 21, 22, 238, 239]) F3c53)
def F3c55 : DCode := (.seq (.cond (.tmp 240) .skip (.exit 8) [0, 7, 8, 14, 20, 21, 22, 238, 239]) F3c54)
def F3c56 : DCode := (.seq (.row F3r45 [0, 7, 8, 14, 20, 21, 22, 238, 239, 240]) F3c55)
def F3c57 : DCode := (.loop F3c56)
def F3c58 : DCode := (.block 8 F3c57 [0, 7, 8, 14, 20, 21, 22])
def F3r49 : List DOper := [
  ⟨(some 24), .light (.mov (.const (.int .i64 0))), none⟩]
def F3r50 : List DOper := [
  ⟨(some 247), .light (.mov (.tmp 24)), none⟩,
  ⟨(some 248), .light (.mov (.tmp 7)), none⟩,
  ⟨(some 249), .light (.bin .int .lss (.tmp 247) (.tmp 248)), none⟩]
def F3c59 : DCode := (.cond (.tmp 249) .skip (.exit 10) [0, 7, 8, 14, 20, 21, 22, 24])
def F3r51 : List DOper := [
  ⟨(some 252), .light (.load none (.tmp 14)), none⟩,
  ⟨(some 253), .light (.lenS (.tmp 252)), none⟩,
  ⟨(some 254), .light (.mov (.const (.int .i64 0))), none⟩]
def F3r52 : List DOper := [
  ⟨(some 255), .light (.bin .int .lss (.tmp 254) (.tmp 253)), none⟩]
def F3r53 : List DOper := [
  ⟨(some 256), .light (.idxSl 4 (.tmp 252) (.tmp 254)), none⟩,
  ⟨(some 257), .light (.load (some 4) (.tmp 256)), none⟩,
  ⟨(some 26), .alloc (.alloc [(.int .i64 0), (.int .i64 0), (.int .i64 0), (.int .i64 0)]), none⟩,
  ⟨none, .heavy (.store 4 (.tmp 26) (.tmp 257)), none⟩]
def F3r54 : List DOper := [
  ⟨(some 258), .light (.mov (.tmp 22)), none⟩,
  ⟨(some 259), .light (.idxArr 2 2 (.tmp 26) (.const (.int .i64 0))), none⟩,
  ⟨(some 260), .light (.fieldAddr 0 (.tmp 259)), none⟩,
  ⟨(some 261), .light (.load none (.tmp 260)), none⟩,
  ⟨(some 262), .light (.idxSl 1 (.tmp 258) (.tmp 261)), none⟩,
  ⟨(some 263), .light (.load none (.tmp 262)), none⟩,
  ⟨(some 264), .light (.mov (.tmp 22)), none⟩,
  ⟨(some 265), .light (.idxArr 2 2 (.tmp 26) (.const (.int .i64 1))), none⟩,
  ⟨(some 266), .light (.fieldAddr 0 (.tmp 265)), none⟩,
  ⟨(some 267), .light (.load none (.tmp 266)), none⟩,
  ⟨(some 268), .light (.idxSl 1 (.tmp 264) (.tmp 267)), none⟩,
  ⟨(some 269), .light (.load none (.tmp 268)), none⟩,
  ⟨(some 270), .light (.minmax false (.tmp 263) [(.tmp 269)]), none⟩,
  ⟨(some 27), .light (.mov (.tmp 270)), none⟩]
def F3p54 : Plan := ⟨[.light 0, .light 1, .light 2, .light 3, .light 4, .light 5, .light 6, .light 7, .light 8, .light 9, .light 10, .light 11, .light 12, .light 13], [], [], [[], [], [1], [1, 2], [0, 1, 2, 3], [0, 1, 2, 3, 4], [], [], [7], [7, 8], [6, 7, 8, 9], [6, 7, 8, 9, 10], [0, 1, 2, 3, 4, 5, 6, 7, 8, 9, 10, 11], [0, 1, 2, 3, 4, 5, 6, 7, 8, 9, 10, 11, 12]]⟩
def F3s54 : List RStep := [
  .light 0 ⟨(some 258), .light (.mov (.tmp 22)), none⟩,
  .light 0 ⟨(some 259), .light (.idxArr 2 2 (.tmp 26) (.const (.int .i64 0))), none⟩,
  .light 0 ⟨(some 260), .light (.fieldAddr 0 (.tmp 259)), none⟩,
  .light 0 ⟨(some 261), .light (.load none (.tmp 260)), none⟩,
  .light 0 ⟨(some 262), .light (.idxSl 1 (.tmp 258) (.tmp 261)), none⟩,
  .light 0 ⟨(some 263), .light (.load none (.tmp 262)), none⟩,
  .light 0 ⟨(some 264), .light (.mov (.tmp 22)), none⟩,
  .light 0 ⟨(some 265), .light (.idxArr 2 2 (.tmp 26) (.const (.int .i64 1))), none⟩,
  .light 0 ⟨(some 266), .light (.fieldAddr 0 (.tmp 265)), none⟩,
  .light 0 ⟨(some 267), .light (.load none (.tmp 266)), none⟩,
  .light 0 ⟨(some 268), .light (.idxSl 1 (.tmp 264) (.tmp 267)), none⟩,
  .light 0 ⟨(some 269), .light (.load none (.tmp 268)), none⟩,
  .light 0 ⟨(some 270), .light (.minmax false (.tmp 263) [(.tmp 269)]), none⟩,
  .light 0 ⟨(some 27), .light (.mov (.tmp 270)), none⟩]
theorem F3d54 {E : Env} {A : AHeap} {K : Exit → Env → AHeap → Prop} : wpC Go.Proofs.Try.prog (.draw F3r54 F3p54 [0, 7, 8, 14, 20, 21, 22, 24, 26, 27, 252, 253, 254]) E A K = wpD Go.Proofs.Try.prog [] A.next F3s54 E (A.reserve 0) fun E' A' => K .normal (E'.keep [0, 7, 8, 14, 20, 21, 22, 24, 26, 27, 252, 253, 254]) A' := wpC_res rfl rfl rfl
def F3r55 : List DOper := [
  ⟨(some 271), .light (.mov (.tmp 22)), none⟩,
  ⟨(some 272), .light (.idxArr 2 2 (.tmp 26) (.const (.int .i64 0))), none⟩,
  ⟨(some 273), .light (.fieldAddr 0 (.tmp 272)), none⟩,
  ⟨(some 274), .light (.load none (.tmp 273)), none⟩,
  ⟨(some 275), .light (.mov (.tmp 27)), none⟩,
  ⟨(some 276), .light (.idxSl 1 (.tmp 271) (.tmp 274)), none⟩,
  ⟨none, .heavy (.store 1 (.tmp 276) (.tmp 275)), none⟩]
def F3r56 : List DOper := [
  ⟨(some 277), .light (.mov (.tmp 22)), none⟩,
  ⟨(some 278), .light (.idxArr 2 2 (.tmp 26) (.const (.int .i64 1))), none⟩,
  ⟨(some 279), .light (.fieldAddr 0 (.tmp 278)), none⟩,
  ⟨(some 280), .light (.load none (.tmp 279)), none⟩,
  ⟨(some 281), .light (.mov (.tmp 27)), none⟩,
  ⟨(some 282), .light (.idxSl 1 (.tmp 277) (.tmp 280)), none⟩,
  ⟨none, .heavy (.store 1 (.tmp 282) (.tmp 281)), none⟩]
def F3c60 : DCode := (.row F3r56 [0, 7, 8, 14, 20, 21, 22, 24, 252, 253, 254])
def F3c61 : DCode := (.seq (.row F3r55 [0, 7, 8, 14, 20, 21, 22, 24, 26, 27, 252, 253, 254]) F3c60)
def F3c62 : DCode := (.seq (.draw F3r54 F3p54 [0, 7, 8, 14, 20, 21, 22, 24, 26, 27, 252, 253, 254]) F3c61)
def F3c63 : DCode := (.seq (.row F3r53 [0, 7, 8, 14, 20, 21, 22, 24, 26, 252, 253, 254]) F3c62)
def F3r57 : List DOper := [
  ⟨(some 283), .light (.bin .int .add (.tmp 254) (.const (.int .i64 1))), none⟩,
  ⟨(some 254), .light (.mov (.tmp 283)), none⟩]
def F3c64 : DCode := (.row F3r57 [0, 7, 8, 14, 20, 21, 22, 24, 252, 253, 254])
def F3c65 : DCode := (.seq (.block 13 F3c63 [0, 7, 8, 14, 20, 21, 22, 24, 252, 253, 254]) F3c64)
def F3c66 : DCode := (.seq (.cond (.tmp 255) .skip (.exit 12) [0, 7, 8, 14, 20, 21, 22, 24, 252, 253, 254]) F3c65)
def F3c67 : DCode := (.seq (.row F3r52 [0, 7, 8, 14, 20, 21, 22, 24, 252, 253, 254, 255]) F3c66)
def F3c68 : DCode := (.loop F3c67)
def F3c69 : DCode := (.block 12 F3c68 [0, 7, 8, 14, 20, 21, 22, 24])
def F3c70 : DCode := (.seq (.row F3r51 [0, 7, 8, 14, 20, 21, 22, 24, 252, 253, 254]) F3c69)
def F3r58 : List DOper := [
  ⟨(some 250), .light (.mov (.tmp 24)), none⟩,
  ⟨(some 251), .light (.bin .int .add (.tmp 250) (.const (.int .i64 1))), none⟩,
  ⟨(some 24), .light (.mov (.tmp 251)), none⟩]
def F3c71 : DCode := (.row F3r58 [0, 7, 8, 14, 20, 21, 22, 24])
def F3c72 : DCode := (.seq (.block 11 F3c70 [0, 7, 8, 14, 20, 21, 22, 24]) F3c71)
def F3c73 : DCode := (.seq (.seq (.row F3r50 [0, 7, 8, 14, 20, 21, 22, 24, 249]) F3c59) F3c72)
def F3c74 : DCode := (.loop F3c73)
def F3c75 : DCode := (.block 10 F3c74 [0, 8, 14, 20, 21, 22])
def F3r59 : List DOper := [
  ⟨(some 28), .light (.mov (.const (.slice none 0 0))), none⟩]
def F3r60 : List DOper := [
  ⟨(some 29), .light (.mov (.const (.int .i64 0))), none⟩]
def F3r61 : List DOper := [
  ⟨(some 284), .light (.mov (.tmp 29)), none⟩,
  ⟨(some 285), .light (.bin .int .lss (.tmp 284) (.const (.int .i64 2))), none⟩]
def F3c76 : DCode := (.cond (.tmp 285) .skip (.exit 14) [0, 8, 14, 20, 21, 22, 28, 29])
def F3r62 : List DOper := [
  ⟨(some 288), .alloc (.mkslice [] 1 0 []), none⟩,
  ⟨(some 30), .light (.mov (.tmp 288)), none⟩]
def F3r63 : List DOper := [
  ⟨(some 289), .light (.load none (.tmp 8)), none⟩,
  ⟨(some 290), .light (.lenS (.tmp 289)), none⟩,
  ⟨(some 291), .light (.mov (.const (.int .i64 0))), none⟩]
def F3r64 : List DOper := [
  ⟨(some 292), .light (.bin .int .lss (.tmp 291) (.tmp 290)), none⟩]
def F3r65 : List DOper := [
  ⟨(some 293), .light (.mov (.tmp 291)), none⟩,
  ⟨(some 294), .light (.idxSl 1 (.tmp 289) (.tmp 291)), none⟩,
  ⟨(some 295), .light (.load none (.tmp 294)), none⟩,
  ⟨(some 31), .light (.mov (.tmp 293)), none⟩,
  ⟨(some 32), .light (.mov (.tmp 295)), none⟩]
def F3r66 : List DOper := [
  ⟨(some 296), .light (.mov (.tmp 31)), none⟩,
  ⟨(some 33), .light (.mov (.tmp 296)), none⟩]
def F3r67 : List DOper := [
  ⟨(some 297), .light (.load none (.tmp 8)), none⟩,
  ⟨(some 298), .light (.lenS (.tmp 297)), none⟩,
  ⟨(some 299), .light (.mov (.const (.int .i64 0))), none⟩]
def F3r68 : List DOper := [
  ⟨(some 300), .light (.bin .int .lss (.tmp 299) (.tmp 298)), none⟩]
def F3r69 : List DOper := [
  ⟨(some 301), .light (.mov (.tmp 299)), none⟩,
  ⟨(some 34), .light (.mov (.tmp 301)), none⟩]
def F3r70 : List DOper := [
  ⟨(some 302), .light (.mov (.tmp 22)), none⟩,
  ⟨(some 303), .light (.mov (.tmp 34)), none⟩,
  ⟨(some 304), .light (.idxSl 1 (.tmp 302) (.tmp 303)), none⟩,
  ⟨(some 305), .light (.load none (.tmp 304)), none⟩,
  ⟨(some 306), .light (.mov (.tmp 22)), none⟩,
  ⟨(some 307), .light (.mov (.tmp 31)), none⟩,
  ⟨(some 308), .light (.idxSl 1 (.tmp 306) (.tmp 307)), none⟩,
  ⟨(some 309), .light (.load none (.tmp 308)), none⟩,
  ⟨(some 310), .light (.bin .int .eql (.tmp 305) (.tmp 309)), none⟩,
  ⟨(some 311), .light (.mov (.tmp 310)), none⟩,
  ⟨(some 312), .light (.mov (.tmp 0)), (some (311, true))⟩,
  ⟨(some 313), .light (.mov (.tmp 34)), (some (311, true))⟩,
  ⟨(some 314), .light (.idxSl 4 (.tmp 312) (.tmp 313)), (some (311, true))⟩,
  ⟨(some 315), .light (.load (some 4) (.tmp 314)), (some (311, true))⟩,
  ⟨(some 316), .light (.mov (.tmp 0)), (some (311, true))⟩,
  ⟨(some 317), .light (.mov (.tmp 33)), (some (311, true))⟩,
  ⟨(some 318), .light (.idxSl 4 (.tmp 316) (.tmp 317)), (some (311, true))⟩,
  ⟨(some 319), .light (.load (some 4) (.tmp 318)), (some (311, true))⟩,
  ⟨(some 320), .heavy (.call 10 [(.tmp 315), (.tmp 319)]), (some (311, true))⟩,
  ⟨(some 321), .light (.bin .int .lss (.tmp 320) (.const (.int .i64 0))), (some (311, true))⟩,
  ⟨(some 322), .light (.pick (.tmp 311) (.tmp 321) (.const (.bool false))), none⟩]
def F3p70 : Plan := ⟨[.light 0, .light 1, .light 2, .light 3, .light 4, .light 5, .light 6, .light 7, .light 8, .light 9, .light 10, .light 11, .light 12, .light 13, .light 14, .light 15, .light 16, .light 17, .heavy 18 [] [], .light 19, .light 20], [], [], [[], [], [0, 1], [0, 1, 2], [], [], [4, 5], [4, 5, 6], [0, 1, 2, 3, 4, 5, 6, 7], [0, 1, 2, 3, 4, 5, 6, 7, 8], [0, 1, 2, 3, 4, 5, 6, 7, 8, 9], [0, 1, 2, 3, 4, 5, 6, 7, 8, 9], [0, 1, 2, 3, 4, 5, 6, 7, 8, 9, 10, 11], [0, 1, 2, 3, 4, 5, 6, 7, 8, 9, 10, 11, 12], [0, 1, 2, 3, 4, 5, 6, 7, 8, 9], [0, 1, 2, 3, 4, 5, 6, 7, 8, 9], [0, 1, 2, 3, 4, 5, 6, 7, 8, 9, 14, 15], [0, 1, 2, 3, 4, 5, 6, 7, 8, 9, 14, 15, 16], [0, 1, 2, 3, 4, 5, 6, 7, 8, 9, 10, 11, 12, 13, 14, 15, 16, 17], [0, 1, 2, 3, 4, 5, 6, 7, 8, 9, 10, 11, 12, 13, 14, 15, 16, 17, 18], [0, 1, 2, 3, 4, 5, 6, 7, 8, 9, 10, 11, 12, 13, 14, 15, 16, 17, 18, 19]]⟩
def F3s70t1 : List RStep := [
  .light 0 ⟨(some 321), .light (.bin .int .lss (.tmp 320) (.const (.int .i64 0))), (some (311, true))⟩,
  .light 0 ⟨(some 322), .light (.pick (.tmp 311) (.tmp 321) (.const (.bool false))), none⟩]
def F3s70 : List RStep :=
  .light 0 ⟨(some 302), .light (.mov (.tmp 22)), none⟩ ::
  .light 0 ⟨(some 303), .light (.mov (.tmp 34)), none⟩ ::
  .light 0 ⟨(some 304), .light (.idxSl 1 (.tmp 302) (.tmp 303)), none⟩ ::
  .light 0 ⟨(some 305), .light (.load none (.tmp 304)), none⟩ ::
  .light 0 ⟨(some 306), .light (.mov (.tmp 22)), none⟩ ::
  .light 0 ⟨(some 307), .light (.mov (.tmp 31)), none⟩ ::
  .light 0 ⟨(some 308), .light (.idxSl 1 (.tmp 306) (.tmp 307)), none⟩ ::
  .light 0 ⟨(some 309), .light (.load none (.tmp 308)), none⟩ ::
  .light 0 ⟨(some 310), .light (.bin .int .eql (.tmp 305) (.tmp 309)), none⟩ ::
  .light 0 ⟨(some 311), .light (.mov (.tmp 310)), none⟩ ::
  .light 0 ⟨(some 312), .light (.mov (.tmp 0)), (some (311, true))⟩ ::
  .light 0 ⟨(some 313), .light (.mov (.tmp 34)), (some (311, true))⟩ ::
  .light 0 ⟨(some 314), .light (.idxSl 4 (.tmp 312) (.tmp 313)), (some (311, true))⟩ ::
  .light 0 ⟨(some 315), .light (.load (some 4) (.tmp 314)), (some (311, true))⟩ ::
  .light 0 ⟨(some 316), .light (.mov (.tmp 0)), (some (311, true))⟩ ::
  .light 0 ⟨(some 317), .light (.mov (.tmp 33)), (some (311, true))⟩ ::
  .light 0 ⟨(some 318), .light (.idxSl 4 (.tmp 316) (.tmp 317)), (some (311, true))⟩ ::
  .light 0 ⟨(some 319), .light (.load (some 4) (.tmp 318)), (some (311, true))⟩ ::
  .heavy ⟨(some 320), .heavy (.call 10 [(.tmp 315), (.tmp 319)]), (some (311, true))⟩ [] [] ::
  F3s70t1
theorem F3d70 {E : Env} {A : AHeap} {K : Exit → Env → AHeap → Prop} : wpC Go.Proofs.Try.prog (.draw F3r70 F3p70 [0, 8, 14, 20, 21, 22, 28, 29, 30, 31, 32, 33, 34, 289, 290, 291, 298, 299, 322]) E A K = wpD Go.Proofs.Try.prog [] A.next F3s70 E (A.reserve 0) fun E' A' => K .normal (E'.keep [0, 8, 14, 20, 21, 22, 28, 29, 30, 31, 32, 33, 34, 289, 290, 291, 298, 299, 322]) A' := wpC_res rfl rfl rfl
def F3r71 : List DOper := [
  ⟨(some 323), .light (.mov (.tmp 34)), none⟩,
  ⟨(some 33), .light (.mov (.tmp 323)), none⟩]
def F3c77 : DCode := (.row F3r71 [0, 8, 14, 20, 21, 22, 28, 29, 30, 31, 32, 33, 289, 290, 291, 298, 299])
def F3c78 : DCode := (.cond (.tmp 322) F3c77 .skip [0, 8, 14, 20, 21, 22, 28, 29, 30, 31, 32, 33, 289, 290, 291, 298, 299])
def F3c79 : DCode := (.seq (.draw F3r70 F3p70 [0, 8, 14, 20, 21, 22, 28, 29, 30, 31, 32, 33, 34, 289, 290, 291, 298, 299, 322]) F3c78)
def F3c80 : DCode := (.seq (.row F3r69 [0, 8, 14, 20, 21, 22, 28, 29, 30, 31, 32, 33, 34, 289, 290, 291, 298, 299]) F3c79)
def F3r72 : List DOper := [
  ⟨(some 324), .light (.bin .int .add (.tmp 299) (.const (.int .i64 1))), none⟩,
  ⟨(some 299), .light (.mov (.tmp 324)), none⟩]
def F3c81 : DCode := (.row F3r72 [0, 8, 14, 20, 21, 22, 28, 29, 30, 31, 32, 33, 289, 290, 291, 298, 299])
def F3c82 : DCode := (.seq (.block 19 F3c80 [0, 8, 14, 20, 21, 22, 28, 29, 30, 31, 32, 33, 289, 290, 291, 298, 299]) F3c81)
def F3c83 : DCode := (.seq (.cond (.tmp 300) .skip (.exit 18) [0, 8, 14, 20, 21, 22, 28, 29, 30, 31, 32, 33, 289, 290, 291, 298, 299]) F3c82)
def F3c84 : DCode := (.seq (.row F3r68 [0, 8, 14, 20, 21, 22, 28, 29, 30, 31, 32, 33, 289, 290, 291, 298, 299, 300]) F3c83)
def F3c85 : DCode := (.loop F3c84)
def F3c86 : DCode := (.block 18 F3c85 [0, 8, 14, 20, 21, 22, 28, 29, 30, 31, 32, 33, 289, 290, 291])
def F3r73t1 : List DOper := [
  ⟨(some 325), .light (.mov (.tmp 328)), none⟩,
  ⟨(some 329), .light (.extract (.tmp 325) 0), none⟩,
  ⟨(some 330), .light (.extract (.tmp 325) 1), none⟩,
  ⟨(some 35), .alloc (.alloc [(.int .i64 0), (.int .i64 0), (.int .i64 0), (.int .i64 0), (.int .i64 0), (.int .i64 0), (.int .i64 0), (.int .i64 0)]), none⟩,
  ⟨none, .heavy (.store 8 (.tmp 35) (.tmp 329)), none⟩,
  ⟨(some 36), .light (.mov (.tmp 330)), none⟩]
def F3r73 : List DOper :=
  ⟨(some 326), .light (.mov (.tmp 32)), none⟩ ::
  ⟨(some 327), .light (.mov (.tmp 21)), none⟩ ::
  ⟨(some 328), .heavy (.call 11 [(.tmp 326), (.tmp 327)]), none⟩ ::
  F3r73t1
def F3r74 : List DOper := [
  ⟨(some 331), .light (.fieldAddr 0 (.tmp 35)), none⟩,
  ⟨(some 332), .light (.load (some 4) (.tmp 331)), none⟩,
  ⟨(some 333), .light (.mov (.tmp 0)), none⟩,
  ⟨(some 334), .light (.mov (.tmp 33)), none⟩,
  ⟨(some 335), .light (.idxSl 4 (.tmp 333) (.tmp 334)), none⟩,
  ⟨(some 336), .light (.load (some 4) (.tmp 335)), none⟩,
  ⟨(some 337), .light (.bin (.agg 4) .neq (.tmp 332) (.tmp 336)), none⟩,
  ⟨(some 338), .light (.mov (.tmp 337)), none⟩,
  ⟨(some 339), .light (.mov (.tmp 36)), (some (338, false))⟩,
  ⟨(some 340), .light (.lenS (.tmp 339)), (some (338, false))⟩,
  ⟨(some 341), .light (.bin .int .neq (.tmp 340) (.const (.int .i64 8))), (some (338, false))⟩,
  ⟨(some 342), .light (.pick (.tmp 338) (.const (.bool true)) (.tmp 341)), none⟩]
def F3p74 : Plan := ⟨[.light 0, .light 1, .light 2, .light 3, .light 4, .light 5, .light 6, .light 7, .light 8, .light 9, .light 10, .light 11], [], [], [[], [0], [], [], [2, 3], [2, 3, 4], [0, 1, 2, 3, 4, 5], [0, 1, 2, 3, 4, 5, 6], [0, 1, 2, 3, 4, 5, 6, 7], [0, 1, 2, 3, 4, 5, 6, 7, 8], [0, 1, 2, 3, 4, 5, 6, 7, 8, 9], [0, 1, 2, 3, 4, 5, 6, 7, 8, 9, 10]]⟩
def F3s74 : List RStep := [
  .light 0 ⟨(some 331), .light (.fieldAddr 0 (.tmp 35)), none⟩,
  .light 0 ⟨(some 332), .light (.load (some 4) (.tmp 331)), none⟩,
  .light 0 ⟨(some 333), .light (.mov (.tmp 0)), none⟩,
  .light 0 ⟨(some 334), .light (.mov (.tmp 33)), none⟩,
  .light 0 ⟨(some 335), .light (.idxSl 4 (.tmp 333) (.tmp 334)), none⟩,
  .light 0 ⟨(some 336), .light (.load (some 4) (.tmp 335)), none⟩,
  .light 0 ⟨(some 337), .light (.bin (.agg 4) .neq (.tmp 332) (.tmp 336)), none⟩,
  .light 0 ⟨(some 338), .light (.mov (.tmp 337)), none⟩,
  .light 0 ⟨(some 339), .light (.mov (.tmp 36)), (some (338, false))⟩,
  .light 0 ⟨(some 340), .light (.lenS (.tmp 339)), (some (338, false))⟩,
  .light 0 ⟨(some 341), .light (.bin .int .neq (.tmp 340) (.const (.int .i64 8))), (some (338, false))⟩,
  .light 0 ⟨(some 342), .light (.pick (.tmp 338) (.const (.bool true)) (.tmp 341)), none⟩]
theorem F3d74 {E : Env} {A : AHeap} {K : Exit → Env → AHeap → Prop} : wpC Go.Proofs.Try.prog (.draw F3r74 F3p74 [0, 8, 14, 20, 21, 22, 28, 29, 30, 31, 32, 33, 36, 289, 290, 291, 342]) E A K = wpD Go.Proofs.Try.prog [] A.next F3s74 E (A.reserve 0) fun E' A' => K .normal (E'.keep [0, 8, 14, 20, 21, 22, 28, 29, 30, 31, 32, 33, 36, 289, 290, 291, 342]) A' := wpC_res rfl rfl rfl
def F3r75 : List DOper := [
  ⟨(some 6), .light (.mov (.const (.bool false))), none⟩]
def F3c87 : DCode := (.seq (.row F3r75 [6]) .ret)
def F3c88 : DCode := (.cond (.tmp 342) F3c87 .skip [0, 8, 14, 20, 21, 22, 28, 29, 30, 31, 32, 33, 36, 289, 290, 291])
def F3r76 : List DOper := [
  ⟨(some 37), .light (.mov (.const (.int .i64 0))), none⟩]
def F3r77 : List DOper := [
  ⟨(some 343), .light (.mov (.tmp 36)), none⟩,
  ⟨(some 344), .light (.lenS (.tmp 343)), none⟩,
  ⟨(some 345), .light (.mov (.const (.int .i64 0))), none⟩]
def F3r78 : List DOper := [
  ⟨(some 346), .light (.bin .int .lss (.tmp 345) (.tmp 344)), none⟩]
def F3r79 : List DOper := [
  ⟨(some 347), .light (.idxSl 1 (.tmp 343) (.tmp 345)), none⟩,
  ⟨(some 348), .light (.load none (.tmp 347)), none⟩,
  ⟨(some 39), .light (.mov (.tmp 348)), none⟩]
def F3r80 : List DOper := [
  ⟨(some 349), .light (.mov (.tmp 39)), none⟩,
  ⟨(some 350), .light (.bin .int .eql (.tmp 349) (.const (.int .i64 2))), none⟩]
def F3r81 : List DOper := [
  ⟨(some 351), .light (.mov (.tmp 37)), none⟩,
  ⟨(some 352), .light (.bin .int .add (.tmp 351) (.const (.int .i64 1))), none⟩,
  ⟨(some 37), .light (.mov (.tmp 352)), none⟩]
def F3c89 : DCode := (.row F3r81 [0, 8, 14, 20, 21, 22, 28, 29, 30, 31, 32, 33, 36, 37, 289, 290, 291, 343, 344, 345])
def F3c90 : DCode := (.cond (.tmp 350) F3c89 .skip [0, 8, 14, 20, 21, 22, 28, 29, 30, 31, 32, 33, 36, 37, 289, 290, 291, 343, 344, 345])
def F3c91 : DCode := (.seq (.row F3r80 [0, 8, 14, 20, 21, 22, 28, 29, 30, 31, 32, 33, 36, 37, 289, 290, 291, 343, 344, 345, 350]) F3c90)
def F3c92 : DCode := (.seq (.row F3r79 [0, 8, 14, 20, 21, 22, 28, 29, 30, 31, 32, 33, 36, 37, 39, 289, 290, 291, 343, 344, 345]) F3c91)
def F3r82 : List DOper := [
  ⟨(some 353), .light (.bin .int .add (.tmp 345) (.const (.int .i64 1))), none⟩,
  ⟨(some 345), .light (.mov (.tmp 353)), none⟩]
def F3c93 : DCode := (.row F3r82 [0, 8, 14, 20, 21, 22, 28, 29, 30, 31, 32, 33, 36, 37, 289, 290, 291, 343, 344, 345])
def F3c94 : DCode := (.seq (.block 21 F3c92 [0, 8, 14, 20, 21, 22, 28, 29, 30, 31, 32, 33, 36, 37, 289, 290, 291, 343, 344, 345]) F3c93)
def F3c95 : DCode := (.seq (.cond (.tmp 346) .skip (.exit 20) [0, 8, 14, 20, 21, 22, 28, 29, 30, 31, 32, 33, 36, 37, 289, 290, 291, 343, 344, 345]) F3c94)
def F3c96 : DCode := (.seq (.row F3r78 [0, 8, 14, 20, 21, 22, 28, 29, 30, 31, 32, 33, 36, 37, 289, 290, 291, 343, 344, 345, 346]) F3c95)
def F3c97 : DCode := (.loop F3c96)
def F3c98 : DCode := (.block 20 F3c97 [0, 8, 14, 20, 21, 22, 28, 29, 30, 31, 32, 33, 36, 37, 289, 290, 291])
def F3r83t1 : List DOper := [
  ⟨(some 374), .light (.mov (.tmp 33)), (some (370, false))⟩,
  ⟨(some 375), .light (.mov (.tmp 31)), (some (370, false))⟩,
  ⟨(some 376), .light (.bin .int .eql (.tmp 374) (.tmp 375)), (some (370, false))⟩,
  ⟨(some 377), .light (.bin .bool .neq (.tmp 373) (.tmp 376)), (some (370, false))⟩,
  ⟨(some 378), .light (.pick (.tmp 370) (.const (.bool true)) (.tmp 377)), none⟩]
def F3r83 : List DOper :=
  ⟨(some 354), .light (.mov (.tmp 33)), none⟩ ::
  ⟨(some 355), .light (.mov (.tmp 31)), none⟩ ::
  ⟨(some 356), .light (.bin .int .eql (.tmp 354) (.tmp 355)), none⟩ ::
  ⟨(some 357), .light (.mov (.tmp 356)), none⟩ ::
  ⟨(some 358), .light (.mov (.tmp 37)), (some (357, true))⟩ ::
  ⟨(some 359), .light (.bin .int .neq (.tmp 358) (.const (.int .i64 0))), (some (357, true))⟩ ::
  ⟨(some 360), .light (.pick (.tmp 357) (.tmp 359) (.const (.bool false))), none⟩ ::
  ⟨(some 361), .light (.mov (.tmp 360)), none⟩ ::
  ⟨(some 362), .light (.mov (.tmp 33)), (some (361, false))⟩ ::
  ⟨(some 363), .light (.mov (.tmp 31)), (some (361, false))⟩ ::
  ⟨(some 364), .light (.bin .int .neq (.tmp 362) (.tmp 363)), (some (361, false))⟩ ::
  ⟨(some 365), .light (.mov (.tmp 364)), (some (361, false))⟩ ::
  ⟨(some 366), .light (.mov (.tmp 37)), (some (365, true))⟩ ::
  ⟨(some 367), .light (.bin .int .neq (.tmp 366) (.const (.int .i64 1))), (some (365, true))⟩ ::
  ⟨(some 368), .light (.pick (.tmp 365) (.tmp 367) (.const (.bool false))), (some (361, false))⟩ ::
  ⟨(some 369), .light (.pick (.tmp 361) (.const (.bool true)) (.tmp 368)), none⟩ ::
  ⟨(some 370), .light (.mov (.tmp 369)), none⟩ ::
  ⟨(some 371), .light (.mov (.tmp 32)), (some (370, false))⟩ ::
  ⟨(some 372), .light (.mov (.tmp 21)), (some (370, false))⟩ ::
  ⟨(some 373), .heavy (.call 12 [(.tmp 371), (.tmp 372)]), (some (370, false))⟩ ::
  F3r83t1
def F3r84 : List DOper := [
  ⟨(some 6), .light (.mov (.const (.bool false))), none⟩]
def F3c99 : DCode := (.seq (.row F3r84 [6]) .ret)
def F3c100 : DCode := (.cond (.tmp 378) F3c99 .skip [0, 8, 14, 20, 21, 22, 28, 29, 30, 36, 289, 290, 291])
def F3r85 : List DOper := [
  ⟨(some 379), .light (.mov (.tmp 30)), none⟩,
  ⟨(some 380), .light (.mov (.tmp 36)), none⟩,
  ⟨(some 381), .alloc (.mkslice [(.slice none 0 0)] 1 1 [(0, 1, (.tmp 380))]), none⟩,
  ⟨(some 382), .heavy (.append 1 24 (.tmp 379) (.tmp 381)), none⟩,
  ⟨(some 30), .light (.mov (.tmp 382)), none⟩]
def F3c101 : DCode := (.row F3r85 [0, 8, 14, 20, 21, 22, 28, 29, 30, 289, 290, 291])
def F3c102 : DCode := (.seq (.seq (.row F3r83 [0, 8, 14, 20, 21, 22, 28, 29, 30, 36, 289, 290, 291, 378]) F3c100) F3c101)
def F3c103 : DCode := (.seq (.seq (.row F3r77 [0, 8, 14, 20, 21, 22, 28, 29, 30, 31, 32, 33, 36, 37, 289, 290, 291, 343, 344, 345]) F3c98) F3c102)
def F3c104 : DCode := (.seq (.row F3r76 [0, 8, 14, 20, 21, 22, 28, 29, 30, 31, 32, 33, 36, 37, 289, 290, 291]) F3c103)
def F3c105 : DCode := (.seq (.seq (.draw F3r74 F3p74 [0, 8, 14, 20, 21, 22, 28, 29, 30, 31, 32, 33, 36, 289, 290, 291, 342]) F3c88) F3c104)
def F3c106 : DCode := (.seq (.row F3r73 [0, 8, 14, 20, 21, 22, 28, 29, 30, 31, 32, 33, 35, 36, 289, 290, 291]) F3c105)
def F3c107 : DCode := (.seq (.seq (.row F3r67 [0, 8, 14, 20, 21, 22, 28, 29, 30, 31, 32, 33, 289, 290, 291, 298, 299]) F3c86) F3c106)
def F3c108 : DCode := (.seq (.row F3r66 [0, 8, 14, 20, 21, 22, 28, 29, 30, 31, 32, 33, 289, 290, 291]) F3c107)
def F3c109 : DCode := (.seq (.row F3r65 [0, 8, 14, 20, 21, 22, 28, 29, 30, 31, 32, 289, 290, 291]) F3c108)
def F3r86 : List DOper := [
  ⟨(some 383), .light (.bin .int .add (.tmp 291) (.const (.int .i64 1))), none⟩,
  ⟨(some 291), .light (.mov (.tmp 383)), none⟩]
def F3c110 : DCode := (.row F3r86 [0, 8, 14, 20, 21, 22, 28, 29, 30, 289, 290, 291])
def F3c111 : DCode := (.seq (.block 17 F3c109 [0, 8, 14, 20, 21, 22, 28, 29, 30, 289, 290, 291]) F3c110)
def F3c112 : DCode := (.seq (.cond (.tmp 292) .skip (.exit 16) [0, 8, 14, 20, 21, 22, 28, 29, 30, 289, 290, 291]) F3c111)
def F3c113 : DCode := (.seq (.row F3r64 [0, 8, 14, 20, 21, 22, 28, 29, 30, 289, 290, 291, 292]) F3c112)
def F3c114 : DCode := (.loop F3c113)
def F3c115 : DCode := (.block 16 F3c114 [0, 8, 14, 20, 21, 22, 28, 29, 30])
def F3r87 : List DOper := [
  ⟨(some 384), .light (.load none (.tmp 14)), none⟩,
  ⟨(some 385), .light (.lenS (.tmp 384)), none⟩,
  ⟨(some 386), .light (.mov (.const (.int .i64 0))), none⟩]
def F3r88 : List DOper := [
  ⟨(some 387), .light (.bin .int .lss (.tmp 386) (.tmp 385)), none⟩]
def F3r89 : List DOper := [
  ⟨(some 388), .light (.idxSl 4 (.tmp 384) (.tmp 386)), none⟩,
  ⟨(some 389), .light (.load (some 4) (.tmp 388)), none⟩,
  ⟨(some 41), .alloc (.alloc [(.int .i64 0), (.int .i64 0), (.int .i64 0), (.int .i64 0)]), none⟩,
  ⟨none, .heavy (.store 4 (.tmp 41) (.tmp 389)), none⟩]
def F3r90 : List DOper := [
  ⟨(some 390), .light (.mov (.tmp 30)), none⟩,
  ⟨(some 391), .light (.idxArr 2 2 (.tmp 41) (.const (.int .i64 0))), none⟩,
  ⟨(some 392), .light (.fieldAddr 0 (.tmp 391)), none⟩,
  ⟨(some 393), .light (.load none (.tmp 392)), none⟩,
  ⟨(some 394), .light (.idxSl 1 (.tmp 390) (.tmp 393)), none⟩,
  ⟨(some 395), .light (.load none (.tmp 394)), none⟩,
  ⟨(some 396), .light (.idxArr 2 2 (.tmp 41) (.const (.int .i64 0))), none⟩,
  ⟨(some 397), .light (.fieldAddr 1 (.tmp 396)), none⟩,
  ⟨(some 398), .light (.load none (.tmp 397)), none⟩,
  ⟨(some 399), .light (.idxSl 1 (.tmp 395) (.tmp 398)), none⟩,
  ⟨(some 400), .light (.load none (.tmp 399)), none⟩,
  ⟨(some 42), .light (.mov (.tmp 400)), none⟩]
def F3p90 : Plan := ⟨[.light 0, .light 1, .light 2, .light 3, .light 4, .light 5, .light 6, .light 7, .light 8, .light 9, .light 10, .light 11], [], [], [[], [], [1], [1, 2], [0, 1, 2, 3], [0, 1, 2, 3, 4], [], [6], [6, 7], [0, 1, 2, 3, 4, 5, 6, 7, 8], [0, 1, 2, 3, 4, 5, 6, 7, 8, 9], [0, 1, 2, 3, 4, 5, 6, 7, 8, 9, 10]]⟩
def F3s90 : List RStep := [
  .light 0 ⟨(some 390), .light (.mov (.tmp 30)), none⟩,
  .light 0 ⟨(some 391), .light (.idxArr 2 2 (.tmp 41) (.const (.int .i64 0))), none⟩,
  .light 0 ⟨(some 392), .light (.fieldAddr 0 (.tmp 391)), none⟩,
  .light 0 ⟨(some 393), .light (.load none (.tmp 392)), none⟩,
  .light 0 ⟨(some 394), .light (.idxSl 1 (.tmp 390) (.tmp 393)), none⟩,
  .light 0 ⟨(some 395), .light (.load none (.tmp 394)), none⟩,
  .light 0 ⟨(some 396), .light (.idxArr 2 2 (.tmp 41) (.const (.int .i64 0))), none⟩,
  .light 0 ⟨(some 397), .light (.fieldAddr 1 (.tmp 396)), none⟩,
  .light 0 ⟨(some 398), .light (.load none (.tmp 397)), none⟩,
  .light 0 ⟨(some 399), .light (.idxSl 1 (.tmp 395) (.tmp 398)), none⟩,
  .light 0 ⟨(some 400), .light (.load none (.tmp 399)), none⟩,
  .light 0 ⟨(some 42), .light (.mov (.tmp 400)), none⟩]
theorem F3d90 {E : Env} {A : AHeap} {K : Exit → Env → AHeap → Prop} : wpC Go.Proofs.Try.prog (.draw F3r90 F3p90 [0, 8, 14, 20, 21, 22, 28, 29, 30, 41, 42, 384, 385, 386]) E A K = wpD Go.Proofs.Try.prog [] A.next F3s90 E (A.reserve 0) fun E' A' => K .normal (E'.keep [0, 8, 14, 20, 21, 22, 28, 29, 30, 41, 42, 384, 385, 386]) A' := wpC_res rfl rfl rfl
def F3r91 : List DOper := [
  ⟨(some 401), .light (.mov (.tmp 30)), none⟩,
  ⟨(some 402), .light (.idxArr 2 2 (.tmp 41) (.const (.int .i64 1))), none⟩,
  ⟨(some 403), .light (.fieldAddr 0 (.tmp 402)), none⟩,
  ⟨(some 404), .light (.load none (.tmp 403)), none⟩,
  ⟨(some 405), .light (.idxSl 1 (.tmp 401) (.tmp 404)), none⟩,
  ⟨(some 406), .light (.load none (.tmp 405)), none⟩,
  ⟨(some 407), .light (.idxArr 2 2 (.tmp 41) (.const (.int .i64 1))), none⟩,
  ⟨(some 408), .light (.fieldAddr 1 (.tmp 407)), none⟩,
  ⟨(some 409), .light (.load none (.tmp 408)), none⟩,
  ⟨(some 410), .light (.idxSl 1 (.tmp 406) (.tmp 409)), none⟩,
  ⟨(some 411), .light (.load none (.tmp 410)), none⟩,
  ⟨(some 43), .light (.mov (.tmp 411)), none⟩]
def F3p91 : Plan := ⟨[.light 0, .light 1, .light 2, .light 3, .light 4, .light 5, .light 6, .light 7, .light 8, .light 9, .light 10, .light 11], [], [], [[], [], [1], [1, 2], [0, 1, 2, 3], [0, 1, 2, 3, 4], [], [6], [6, 7], [0, 1, 2, 3, 4, 5, 6, 7, 8], [0, 1, 2, 3, 4, 5, 6, 7, 8, 9], [0, 1, 2, 3, 4, 5, 6, 7, 8, 9, 10]]⟩
def F3s91 : List RStep := [
  .light 0 ⟨(some 401), .light (.mov (.tmp 30)), none⟩,
  .light 0 ⟨(some 402), .light (.idxArr 2 2 (.tmp 41) (.const (.int .i64 1))), none⟩,
  .light 0 ⟨(some 403), .light (.fieldAddr 0 (.tmp 402)), none⟩,
  .light 0 ⟨(some 404), .light (.load none (.tmp 403)), none⟩,
  .light 0 ⟨(some 405), .light (.idxSl 1 (.tmp 401) (.tmp 404)), none⟩,
  .light 0 ⟨(some 406), .light (.load none (.tmp 405)), none⟩,
  .light 0 ⟨(some 407), .light (.idxArr 2 2 (.tmp 41) (.const (.int .i64 1))), none⟩,
  .light 0 ⟨(some 408), .light (.fieldAddr 1 (.tmp 407)), none⟩,
  .light 0 ⟨(some 409), .light (.load none (.tmp 408)), none⟩,
  .light 0 ⟨(some 410), .light (.idxSl 1 (.tmp 406) (.tmp 409)), none⟩,
  .light 0 ⟨(some 411), .light (.load none (.tmp 410)), none⟩,
  .light 0 ⟨(some 43), .light (.mov (.tmp 411)), none⟩]
theorem F3d91 {E : Env} {A : AHeap} {K : Exit → Env → AHeap → Prop} : wpC Go.Proofs.Try.prog (.draw F3r91 F3p91 [0, 8, 14, 20, 21, 22, 28, 29, 30, 42, 43, 384, 385, 386]) E A K = wpD Go.Proofs.Try.prog [] A.next F3s91 E (A.reserve 0) fun E' A' => K .normal (E'.keep [0, 8, 14, 20, 21, 22, 28, 29, 30, 42, 43, 384, 385, 386]) A' := wpC_res rfl rfl rfl
def F3r92 : List DOper := [
  ⟨(some 412), .light (.mov (.tmp 42)), none⟩,
  ⟨(some 413), .light (.bin .int .eql (.tmp 412) (.const (.int .i64 1))), none⟩,
  ⟨(some 414), .light (.mov (.tmp 43)), none⟩,
  ⟨(some 415), .light (.bin .int .eql (.tmp 414) (.const (.int .i64 1))), none⟩,
  ⟨(some 416), .light (.bin .bool .eql (.tmp 413) (.tmp 415)), none⟩,
  ⟨(some 417), .light (.mov (.tmp 416)), none⟩,
  ⟨(some 418), .light (.mov (.tmp 42)), (some (417, false))⟩,
  ⟨(some 419), .light (.bin .int .eql (.tmp 418) (.const (.int .i64 0))), (some (417, false))⟩,
  ⟨(some 420), .light (.pick (.tmp 417) (.const (.bool true)) (.tmp 419)), none⟩,
  ⟨(some 421), .light (.mov (.tmp 420)), none⟩,
  ⟨(some 422), .light (.mov (.tmp 43)), (some (421, false))⟩,
  ⟨(some 423), .light (.bin .int .eql (.tmp 422) (.const (.int .i64 0))), (some (421, false))⟩,
  ⟨(some 424), .light (.pick (.tmp 421) (.const (.bool true)) (.tmp 423)), none⟩]
def F3r93 : List DOper := [
  ⟨(some 6), .light (.mov (.const (.bool false))), none⟩]
def F3c116 : DCode := (.seq (.row F3r93 [6]) .ret)
def F3c117 : DCode := (.cond (.tmp 424) F3c116 .skip [0, 8, 14, 20, 21, 22, 28, 29, 30, 384, 385, 386])
def F3c118 : DCode := (.seq (.row F3r92 [0, 8, 14, 20, 21, 22, 28, 29, 30, 384, 385, 386, 424]) F3c117)
def F3c119 : DCode := (.seq (.draw F3r91 F3p91 [0, 8, 14, 20, 21, 22, 28, 29, 30, 42, 43, 384, 385, 386]) F3c118)
def F3c120 : DCode := (.seq (.draw F3r90 F3p90 [0, 8, 14, 20, 21, 22, 28, 29, 30, 41, 42, 384, 385, 386]) F3c119)
def F3c121 : DCode := (.seq (.row F3r89 [0, 8, 14, 20, 21, 22, 28, 29, 30, 41, 384, 385, 386]) F3c120)
def F3r94 : List DOper := [
  ⟨(some 425), .light (.bin .int .add (.tmp 386) (.const (.int .i64 1))), none⟩,
  ⟨(some 386), .light (.mov (.tmp 425)), none⟩]
def F3c122 : DCode := (.row F3r94 [0, 8, 14, 20, 21, 22, 28, 29, 30, 384, 385, 386])
def F3c123 : DCode := (.seq (.block 23 F3c121 [0, 8, 14, 20, 21, 22, 28, 29, 30, 384, 385, 386]) F3c122)
def F3c124 : DCode := (.seq (.cond (.tmp 387) .skip (.exit 22) [0, 8, 14, 20, 21, 22, 28, 29, 30, 384, 385, 386]) F3c123)
def F3c125 : DCode := (.seq (.row F3r88 [0, 8, 14, 20, 21, 22, 28, 29, 30, 384, 385, 386, 387]) F3c124)
def F3c126 : DCode := (.loop F3c125)
def F3c127 : DCode := (.block 22 F3c126 [0, 8, 14, 20, 21, 22, 28, 29, 30])
def F3r95 : List DOper := [
  ⟨(some 426), .light (.mov (.tmp 28)), none⟩,
  ⟨(some 427), .light (.lenS (.tmp 426)), none⟩,
  ⟨(some 428), .light (.mov (.const (.int .i64 0))), none⟩]
def F3r96 : List DOper := [
  ⟨(some 429), .light (.bin .int .lss (.tmp 428) (.tmp 427)), none⟩]
def F3r97 : List DOper := [
  ⟨(some 430), .light (.mov (.tmp 428)), none⟩,
  ⟨(some 44), .light (.mov (.tmp 430)), none⟩]
def F3r98 : List DOper := [
  ⟨(some 431), .light (.mov (.tmp 28)), none⟩,
  ⟨(some 432), .light (.mov (.tmp 44)), none⟩,
  ⟨(some 433), .light (.idxSl 1 (.tmp 431) (.tmp 432)), none⟩,
  ⟨(some 434), .light (.load none (.tmp 433)), none⟩,
  ⟨(some 435), .light (.lenS (.tmp 434)), none⟩,
  ⟨(some 436), .light (.mov (.const (.int .i64 0))), none⟩]
def F3r99 : List DOper := [
  ⟨(some 437), .light (.bin .int .lss (.tmp 436) (.tmp 435)), none⟩]
def F3r100 : List DOper := [
  ⟨(some 438), .light (.mov (.tmp 436)), none⟩,
  ⟨(some 45), .light (.mov (.tmp 438)), none⟩]
def F3r101 : List DOper := [
  ⟨(some 439), .light (.mov (.tmp 28)), none⟩,
  ⟨(some 440), .light (.mov (.tmp 44)), none⟩,
  ⟨(some 441), .light (.idxSl 1 (.tmp 439) (.tmp 440)), none⟩,
  ⟨(some 442), .light (.load none (.tmp 441)), none⟩,
  ⟨(some 443), .light (.mov (.tmp 45)), none⟩,
  ⟨(some 444), .light (.idxSl 1 (.tmp 442) (.tmp 443)), none⟩,
  ⟨(some 445), .light (.load none (.tmp 444)), none⟩,
  ⟨(some 446), .light (.mov (.tmp 30)), none⟩,
  ⟨(some 447), .light (.mov (.tmp 44)), none⟩,
  ⟨(some 448), .light (.idxSl 1 (.tmp 446) (.tmp 447)), none⟩,
  ⟨(some 449), .light (.load none (.tmp 448)), none⟩,
  ⟨(some 450), .light (.mov (.tmp 45)), none⟩,
  ⟨(some 451), .light (.idxSl 1 (.tmp 449) (.tmp 450)), none⟩,
  ⟨(some 452), .light (.load none (.tmp 451)), none⟩,
  ⟨(some 453), .light (.bin .int .neq (.tmp 445) (.tmp 452)), none⟩]
def F3p101 : Plan := ⟨[.light 0, .light 1, .light 2, .light 3, .light 4, .light 5, .light 6, .light 7, .light 8, .light 9, .light 10, .light 11, .light 12, .light 13, .light 14], [], [], [[], [], [0, 1], [0, 1, 2], [], [0, 1, 2, 3, 4], [0, 1, 2, 3, 4, 5], [], [], [7, 8], [7, 8, 9], [], [7, 8, 9, 10, 11], [7, 8, 9, 10, 11, 12], [0, 1, 2, 3, 4, 5, 6, 7, 8, 9, 10, 11, 12, 13]]⟩
def F3s101 : List RStep := [
  .light 0 ⟨(some 439), .light (.mov (.tmp 28)), none⟩,
  .light 0 ⟨(some 440), .light (.mov (.tmp 44)), none⟩,
  .light 0 ⟨(some 441), .light (.idxSl 1 (.tmp 439) (.tmp 440)), none⟩,
  .light 0 ⟨(some 442), .light (.load none (.tmp 441)), none⟩,
  .light 0 ⟨(some 443), .light (.mov (.tmp 45)), none⟩,
  .light 0 ⟨(some 444), .light (.idxSl 1 (.tmp 442) (.tmp 443)), none⟩,
  .light 0 ⟨(some 445), .light (.load none (.tmp 444)), none⟩,
  .light 0 ⟨(some 446), .light (.mov (.tmp 30)), none⟩,
  .light 0 ⟨(some 447), .light (.mov (.tmp 44)), none⟩,
  .light 0 ⟨(some 448), .light (.idxSl 1 (.tmp 446) (.tmp 447)), none⟩,
  .light 0 ⟨(some 449), .light (.load none (.tmp 448)), none⟩,
  .light 0 ⟨(some 450), .light (.mov (.tmp 45)), none⟩,
  .light 0 ⟨(some 451), .light (.idxSl 1 (.tmp 449) (.tmp 450)), none⟩,
  .light 0 ⟨(some 452), .light (.load none (.tmp 451)), none⟩,
  .light 0 ⟨(some 453), .light (.bin .int .neq (.tmp 445) (.tmp 452)), none⟩]
theorem F3d101 {E : Env} {A : AHeap} {K : Exit → Env → AHeap → Prop} : wpC Go.Proofs.Try.prog (.draw F3r101 F3p101 [0, 8, 14, 20, 21, 22, 28, 29, 30, 44, 427, 428, 435, 436, 453]) E A K = wpD Go.Proofs.Try.prog [] A.next F3s101 E (A.reserve 0) fun E' A' => K .normal (E'.keep [0, 8, 14, 20, 21, 22, 28, 29, 30, 44, 427, 428, 435, 436, 453]) A' := wpC_res rfl rfl rfl
def F3r102 : List DOper := [
  ⟨(some 6), .light (.mov (.const (.bool false))), none⟩]
def F3c128 : DCode := (.seq (.row F3r102 [6]) .ret)
def F3c129 : DCode := (.cond (.tmp 453) F3c128 .skip [0, 8, 14, 20, 21, 22, 28, 29, 30, 44, 427, 428, 435, 436])
def F3c130 : DCode := (.seq (.draw F3r101 F3p101 [0, 8, 14, 20, 21, 22, 28, 29, 30, 44, 427, 428, 435, 436, 453]) F3c129)
def F3c131 : DCode := (.seq (.row F3r100 [0, 8, 14, 20, 21, 22, 28, 29, 30, 44, 45, 427, 428, 435, 436]) F3c130)
def F3r103 : List DOper := [
  ⟨(some 454), .light (.bin .int .add (.tmp 436) (.const (.int .i64 1))), none⟩,
  ⟨(some 436), .light (.mov (.tmp 454)), none⟩]
def F3c132 : DCode := (.row F3r103 [0, 8, 14, 20, 21, 22, 28, 29, 30, 44, 427, 428, 435, 436])
def F3c133 : DCode := (.seq (.block 27 F3c131 [0, 8, 14, 20, 21, 22, 28, 29, 30, 44, 427, 428, 435, 436]) F3c132)
def F3c134 : DCode := (.seq (.cond (.tmp 437) .skip (.exit 26) [0, 8, 14, 20, 21, 22, 28, 29, 30, 44, 427, 428, 435, 436]) F3c133)
def F3c135 : DCode := (.seq (.row F3r99 [0, 8, 14, 20, 21, 22, 28, 29, 30, 44, 427, 428, 435, 436, 437]) F3c134)
def F3c136 : DCode := (.loop F3c135)
def F3c137 : DCode := (.block 26 F3c136 [0, 8, 14, 20, 21, 22, 28, 29, 30, 427, 428])
def F3c138 : DCode := (.seq (.row F3r98 [0, 8, 14, 20, 21, 22, 28, 29, 30, 44, 427, 428, 435, 436]) F3c137)
def F3c139 : DCode := (.seq (.row F3r97 [0, 8, 14, 20, 21, 22, 28, 29, 30, 44, 427, 428]) F3c138)
def F3r104 : List DOper := [
  ⟨(some 455), .light (.bin .int .add (.tmp 428) (.const (.int .i64 1))), none⟩,
  ⟨(some 428), .light (.mov (.tmp 455)), none⟩]
def F3c140 : DCode := (.row F3r104 [0, 8, 14, 20, 21, 22, 28, 29, 30, 427, 428])
def F3c141 : DCode := (.seq (.block 25 F3c139 [0, 8, 14, 20, 21, 22, 28, 29, 30, 427, 428]) F3c140)
def F3c142 : DCode := (.seq (.cond (.tmp 429) .skip (.exit 24) [0, 8, 14, 20, 21, 22, 28, 29, 30, 427, 428]) F3c141)
def F3c143 : DCode := (.seq (.row F3r96 [0, 8, 14, 20, 21, 22, 28, 29, 30, 427, 428, 429]) F3c142)
def F3c144 : DCode := (.loop F3c143)
def F3c145 : DCode := (.block 24 F3c144 [0, 8, 14, 20, 21, 22, 29, 30])
def F3r105 : List DOper := [
  ⟨(some 456), .light (.mov (.tmp 30)), none⟩,
  ⟨(some 28), .light (.mov (.tmp 456)), none⟩]
def F3r106 : List DOper := [
  ⟨(some 457), .light (.mov (.tmp 21)), none⟩,
  ⟨(some 458), .light (.bin .int .add (.tmp 457) (.const (.int .i64 1))), none⟩,
  ⟨(some 21), .light (.mov (.tmp 458)), none⟩]
def F3r107t1 : List DOper := [
  ⟨(some 462), .light (.un .not (.tmp 461)), none⟩]
def F3r107 : List DOper :=
  ⟨(some 459), .light (.mov (.tmp 20)), none⟩ ::
  ⟨(some 460), .light (.mov (.tmp 21)), none⟩ ::
  ⟨(some 461), .heavy (.callv (.tmp 459) [(.tmp 460)]), none⟩ ::
  F3r107t1
def F3r108 : List DOper := [
  ⟨(some 6), .light (.mov (.const (.bool false))), none⟩]
def F3c146 : DCode := (.seq (.row F3r108 [6]) .ret)
def F3c147 : DCode := (.cond (.tmp 462) F3c146 .skip [0, 8, 14, 20, 21, 22, 28, 29])
def F3c148 : DCode := (.seq (.row F3r107 [0, 8, 14, 20, 21, 22, 28, 29, 462]) F3c147)
def F3c149 : DCode := (.seq (.row F3r106 [0, 8, 14, 20, 21, 22, 28, 29]) F3c148)
def F3c150 : DCode := (.seq (.row F3r105 [0, 8, 14, 20, 21, 22, 28, 29]) F3c149)
def F3c151 : DCode := (.seq (.seq (.row F3r95 [0, 8, 14, 20, 21, 22, 28, 29, 30, 427, 428]) F3c145) F3c150)
def F3c152 : DCode := (.seq (.seq (.row F3r87 [0, 8, 14, 20, 21, 22, 28, 29, 30, 384, 385, 386]) F3c127) F3c151)
def F3c153 : DCode := (.seq (.seq (.row F3r63 [0, 8, 14, 20, 21, 22, 28, 29, 30, 289, 290, 291]) F3c115) F3c152)
def F3c154 : DCode := (.seq (.row F3r62 [0, 8, 14, 20, 21, 22, 28, 29, 30]) F3c153)
def F3r109 : List DOper := [
  ⟨(some 286), .light (.mov (.tmp 29)), none⟩,
  ⟨(some 287), .light (.bin .int .add (.tmp 286) (.const (.int .i64 1))), none⟩,
  ⟨(some 29), .light (.mov (.tmp 287)), none⟩]
def F3c155 : DCode := (.row F3r109 [0, 8, 14, 20, 21, 22, 28, 29])
def F3c156 : DCode := (.seq (.block 15 F3c154 [0, 8, 14, 20, 21, 22, 28, 29]) F3c155)
def F3c157 : DCode := (.seq (.seq (.row F3r61 [0, 8, 14, 20, 21, 22, 28, 29, 285]) F3c76) F3c156)
def F3c158 : DCode := (.loop F3c157)
def F3c159 : DCode := (.block 14 F3c158 [])
def F3r110 : List DOper := [
  ⟨(some 6), .light (.mov (.const (.bool true))), none⟩]
def F3c160 : DCode := (.seq (.row F3r110 [6]) .ret)
def F3c161 : DCode := (.seq (.seq (.row F3r60 [0, 8, 14, 20, 21, 22, 28, 29]) F3c159) F3c160)
def F3c162 : DCode := (.seq (.row F3r59 [0, 8, 14, 20, 21, 22, 28]) F3c161)
def F3c163 : DCode := (.seq (.seq (.row F3r49 [0, 7, 8, 14, 20, 21, 22, 24]) F3c75) F3c162)
def F3c164 : DCode := (.seq (.seq (.row F3r44 [0, 7, 8, 14, 20, 21, 22, 238, 239]) F3c58) F3c163)
def F3c165 : DCode := (.seq (.row F3r43 [0, 7, 8, 14, 20, 21, 22]) F3c164)
def F3c166 : DCode := (.seq (.block 6 F3c50 [0, 7, 8, 14, 20, 21]) F3c165)
def F3c167 : DCode := (.seq (.row F3r38 [0, 7, 8, 14, 20, 21]) F3c166)
def F3c168 : DCode := (.seq (.row F3r37 [0, 7, 8, 14, 20]) F3c167)
def F3c169 : DCode := (.seq (.seq (.row F3r32 [0, 2, 7, 8, 14, 19]) F3c42) F3c168)
def F3c170 : DCode := (.seq (.seq (.row F3r20 [0, 2, 7, 8, 13, 14, 103, 104, 105]) F3c33) F3c169)
def F3c171 : DCode := (.seq (.row F3r19 [0, 1, 2, 7, 8, 13, 14]) F3c170)
def F3c172 : DCode := (.seq (.row F3r18 [0, 1, 2, 7, 8, 13]) F3c171)
def F3c173 : DCode := (.seq (.seq (.row F3r8 [0, 1, 2, 7, 8, 65, 66, 67]) F3c17) F3c172)
def F3c174 : DCode := (.seq (.row F3r7 [0, 1, 2, 7, 8]) F3c173)
def F3c175 : DCode := (.seq (.row F3r6 [0, 1, 2, 7, 8]) F3c174)
def F3c176 : DCode := (.seq (.seq (.row F3r4 [0, 1, 2, 7, 60]) F3c3) F3c175)
def F3c177 : DCode := (.seq (.row F3r3 [0, 1, 2, 7]) F3c176)
def F3c178 : DCode := (.seq (.seq (.row F3r1 [0, 1, 2, 47]) F3c1) F3c177)
def F3 : DCode := (.seq (.row F3r0 [0, 1, 2]) F3c178)
def F3a : Ann := (.two (.reg [0, 1, 2] none) (.two (.two (.reg [0, 1, 2, 47] none) (.two (.two (.reg [6] none) .nil []) .nil [0, 1, 2]) []) (.two (.reg [0, 1, 2, 7] none) (.two (.two (.reg [0, 1, 2, 7, 60] none) (.two (.two (.reg [6] none) .nil []) .nil [0, 1, 2, 7]) []) (.two (.reg [0, 1, 2, 7, 8] none) (.two (.reg [0, 1, 2, 7, 8] none) (.two (.two (.reg [0, 1, 2, 7, 8, 65, 66, 67] none) (.one (.one (.two (.reg [0, 1, 2, 7, 8, 65, 66, 67, 68] none) (.two (.two .nil .nil [0, 1, 2, 7, 8, 65, 66, 67]) (.two (.one (.two (.reg [0, 1, 2, 7, 8, 9, 10, 65, 66, 67] none) (.two (.reg [0, 1, 2, 7, 8, 9, 10, 65, 66, 67] none) (.two (.reg [0, 1, 2, 7, 8, 10, 65, 66, 67] none) (.two (.reg [0, 1, 2, 7, 8, 11, 12, 65, 66, 67] none) (.two (.two (.reg [0, 1, 2, 7, 8, 11, 65, 66, 67, 94] none) (.two (.two (.reg [6] none) .nil []) .nil [0, 1, 2, 7, 8, 11, 65, 66, 67]) []) (.reg [0, 1, 2, 7, 8, 65, 66, 67] none) []) []) []) []) []) [0, 1, 2, 7, 8, 65, 66, 67]) (.reg [0, 1, 2, 7, 8, 65, 66, 67] none) []) []) []) []) [0, 1, 2, 7, 8]) []) (.two (.reg [0, 1, 2, 7, 8, 13] none) (.two (.reg [0, 1, 2, 7, 8, 13, 14] none) (.two (.two (.reg [0, 2, 7, 8, 13, 14, 103, 104, 105] none) (.one (.one (.two (.reg [0, 2, 7, 8, 13, 14, 103, 104, 105, 106] none) (.two (.two .nil .nil [0, 2, 7, 8, 13, 14, 103, 104, 105]) (.two (.one (.two (.reg [0, 2, 7, 8, 13, 14, 16, 103, 104, 105] none) (.two (.reg [0, 2, 7, 8, 13, 14, 16, 17, 103, 104, 105] none) (.two (.reg [0, 2, 7, 8, 13, 14, 17, 18, 103, 104, 105] none) (.two (.two (.reg [0, 2, 7, 8, 13, 14, 17, 18, 103, 104, 105, 135] none) (.two .nil .nil [0, 2, 7, 8, 13, 14, 17, 18, 103, 104, 105]) []) (.two (.reg [0, 2, 7, 8, 13, 14, 17, 18, 103, 104, 105] (some F3p26)) (.two (.reg [0, 2, 7, 8, 13, 14, 17, 18, 103, 104, 105] (some F3p27)) (.two (.reg [0, 2, 7, 8, 13, 14, 17, 18, 103, 104, 105] (some F3p28)) (.two (.reg [0, 2, 7, 8, 13, 14, 18, 103, 104, 105] none) (.reg [0, 2, 7, 8, 13, 14, 103, 104, 105] none) []) []) []) []) []) []) []) []) [0, 2, 7, 8, 13, 14, 103, 104, 105]) (.reg [0, 2, 7, 8, 13, 14, 103, 104, 105] none) []) []) []) []) [0, 2, 7, 8, 14]) []) (.two (.two (.reg [0, 2, 7, 8, 14, 19] none) (.one (.one (.two (.two (.reg [0, 2, 7, 8, 14, 19, 190] none) (.two .nil .nil [0, 2, 7, 8, 14, 19]) []) (.two (.one (.two (.reg [0, 2, 7, 8, 14, 19, 200] none) (.two (.reg [0, 2, 7, 8, 14, 19] (some F3p35)) .nil [0, 2, 7, 8, 14, 19]) []) [0, 2, 7, 8, 14, 19]) (.reg [0, 2, 7, 8, 14, 19] none) []) []) []) [0, 7, 8, 14]) []) (.two (.reg [0, 7, 8, 14, 20] none) (.two (.reg [0, 7, 8, 14, 20, 21] none) (.two (.one (.one (.two (.two (.reg [0, 7, 8, 14, 20, 21, 228] none) (.two .nil .nil [0, 7, 8, 14, 20, 21]) []) (.two (.one (.two (.reg [0, 7, 8, 14, 20, 21, 234] none) (.two (.two (.reg [6] none) .nil []) .nil [0, 7, 8, 14, 20, 21]) []) [0, 7, 8, 14, 20, 21]) (.reg [0, 7, 8, 14, 20, 21] none) []) []) []) [0, 7, 8, 14, 20, 21]) (.two (.reg [0, 7, 8, 14, 20, 21, 22] none) (.two (.two (.reg [0, 7, 8, 14, 20, 21, 22, 238, 239] none) (.one (.one (.two (.reg [0, 7, 8, 14, 20, 21, 22, 238, 239, 240] none) (.two (.two .nil .nil [0, 7, 8, 14, 20, 21, 22, 238, 239]) (.two (.one (.two (.reg [0, 7, 8, 14, 20, 21, 22, 23, 238, 239] none) (.reg [0, 7, 8, 14, 20, 21, 22, 238, 239] none) []) [0, 7, 8, 14, 20, 21, 22, 238, 239]) (.reg [0, 7, 8, 14, 20, 21, 22, 238, 239] none) []) []) []) []) [0, 7, 8, 14, 20, 21, 22]) []) (.two (.two (.reg [0, 7, 8, 14, 20, 21, 22, 24] none) (.one (.one (.two (.two (.reg [0, 7, 8, 14, 20, 21, 22, 24, 249] none) (.two .nil .nil [0, 7, 8, 14, 20, 21, 22, 24]) []) (.two (.one (.two (.reg [0, 7, 8, 14, 20, 21, 22, 24, 252, 253, 254] none) (.one (.one (.two (.reg [0, 7, 8, 14, 20, 21, 22, 24, 252, 253, 254, 255] none) (.two (.two .nil .nil [0, 7, 8, 14, 20, 21, 22, 24, 252, 253, 254]) (.two (.one (.two (.reg [0, 7, 8, 14, 20, 21, 22, 24, 26, 252, 253, 254] none) (.two (.reg [0, 7, 8, 14, 20, 21, 22, 24, 26, 27, 252, 253, 254] (some F3p54)) (.two (.reg [0, 7, 8, 14, 20, 21, 22, 24, 26, 27, 252, 253, 254] none) (.reg [0, 7, 8, 14, 20, 21, 22, 24, 252, 253, 254] none) []) []) []) [0, 7, 8, 14, 20, 21, 22, 24, 252, 253, 254]) (.reg [0, 7, 8, 14, 20, 21, 22, 24, 252, 253, 254] none) []) []) []) []) [0, 7, 8, 14, 20, 21, 22, 24]) []) [0, 7, 8, 14, 20, 21, 22, 24]) (.reg [0, 7, 8, 14, 20, 21, 22, 24] none) []) []) []) [0, 8, 14, 20, 21, 22]) []) (.two (.reg [0, 8, 14, 20, 21, 22, 28] none) (.two (.two (.reg [0, 8, 14, 20, 21, 22, 28, 29] none) (.one (.one (.two (.two (.reg [0, 8, 14, 20, 21, 22, 28, 29, 285] none) (.two .nil .nil [0, 8, 14, 20, 21, 22, 28, 29]) []) (.two (.one (.two (.reg [0, 8, 14, 20, 21, 22, 28, 29, 30] none) (.two (.two (.reg [0, 8, 14, 20, 21, 22, 28, 29, 30, 289, 290, 291] none) (.one (.one (.two (.reg [0, 8, 14, 20, 21, 22, 28, 29, 30, 289, 290, 291, 292] none) (.two (.two .nil .nil [0, 8, 14, 20, 21, 22, 28, 29, 30, 289, 290, 291]) (.two (.one (.two (.reg [0, 8, 14, 20, 21, 22, 28, 29, 30, 31, 32, 289, 290, 291] none) (.two (.reg [0, 8, 14, 20, 21, 22, 28, 29, 30, 31, 32, 33, 289, 290, 291] none) (.two (.two (.reg [0, 8, 14, 20, 21, 22, 28, 29, 30, 31, 32, 33, 289, 290, 291, 298, 299] none) (.one (.one (.two (.reg [0, 8, 14, 20, 21, 22, 28, 29, 30, 31, 32, 33, 289, 290, 291, 298, 299, 300] none) (.two (.two .nil .nil [0, 8, 14, 20, 21, 22, 28, 29, 30, 31, 32, 33, 289, 290, 291, 298, 299]) (.two (.one (.two (.reg [0, 8, 14, 20, 21, 22, 28, 29, 30, 31, 32, 33, 34, 289, 290, 291, 298, 299] none) (.two (.reg [0, 8, 14, 20, 21, 22, 28, 29, 30, 31, 32, 33, 34, 289, 290, 291, 298, 299, 322] (some F3p70)) (.two (.reg [0, 8, 14, 20, 21, 22, 28, 29, 30, 31, 32, 33, 289, 290, 291, 298, 299] none) .nil [0, 8, 14, 20, 21, 22, 28, 29, 30, 31, 32, 33, 289, 290, 291, 298, 299]) []) []) [0, 8, 14, 20, 21, 22, 28, 29, 30, 31, 32, 33, 289, 290, 291, 298, 299]) (.reg [0, 8, 14, 20, 21, 22, 28, 29, 30, 31, 32, 33, 289, 290, 291, 298, 299] none) []) []) []) []) [0, 8, 14, 20, 21, 22, 28, 29, 30, 31, 32, 33, 289, 290, 291]) []) (.two (.reg [0, 8, 14, 20, 21, 22, 28, 29, 30, 31, 32, 33, 35, 36, 289, 290, 291] none) (.two (.two (.reg [0, 8, 14, 20, 21, 22, 28, 29, 30, 31, 32, 33, 36, 289, 290, 291, 342] (some F3p74)) (.two (.two (.reg [6] none) .nil []) .nil [0, 8, 14, 20, 21, 22, 28, 29, 30, 31, 32, 33, 36, 289, 290, 291]) []) (.two (.reg [0, 8, 14, 20, 21, 22, 28, 29, 30, 31, 32, 33, 36, 37, 289, 290, 291] none) (.two (.two (.reg [0, 8, 14, 20, 21, 22, 28, 29, 30, 31, 32, 33, 36, 37, 289, 290, 291, 343, 344, 345] none) (.one (.one (.two (.reg [0, 8, 14, 20, 21, 22, 28, 29, 30, 31, 32, 33, 36, 37, 289, 290, 291, 343, 344, 345, 346] none) (.two (.two .nil .nil [0, 8, 14, 20, 21, 22, 28, 29, 30, 31, 32, 33, 36, 37, 289, 290, 291, 343, 344, 345]) (.two (.one (.two (.reg [0, 8, 14, 20, 21, 22, 28, 29, 30, 31, 32, 33, 36, 37, 39, 289, 290, 291, 343, 344, 345] none) (.two (.reg [0, 8, 14, 20, 21, 22, 28, 29, 30, 31, 32, 33, 36, 37, 289, 290, 291, 343, 344, 345, 350] none) (.two (.reg [0, 8, 14, 20, 21, 22, 28, 29, 30, 31, 32, 33, 36, 37, 289, 290, 291, 343, 344, 345] none) .nil [0, 8, 14, 20, 21, 22, 28, 29, 30, 31, 32, 33, 36, 37, 289, 290, 291, 343, 344, 345]) []) []) [0, 8, 14, 20, 21, 22, 28, 29, 30, 31, 32, 33, 36, 37, 289, 290, 291, 343, 344, 345]) (.reg [0, 8, 14, 20, 21, 22, 28, 29, 30, 31, 32, 33, 36, 37, 289, 290, 291, 343, 344, 345] none) []) []) []) []) [0, 8, 14, 20, 21, 22, 28, 29, 30, 31, 32, 33, 36, 37, 289, 290, 291]) []) (.two (.two (.reg [0, 8, 14, 20, 21, 22, 28, 29, 30, 36, 289, 290, 291, 378] none) (.two (.two (.reg [6] none) .nil []) .nil [0, 8, 14, 20, 21, 22, 28, 29, 30, 36, 289, 290, 291]) []) (.reg [0, 8, 14, 20, 21, 22, 28, 29, 30, 289, 290, 291] none) []) []) []) []) []) []) []) []) [0, 8, 14, 20, 21, 22, 28, 29, 30, 289, 290, 291]) (.reg [0, 8, 14, 20, 21, 22, 28, 29, 30, 289, 290, 291] none) []) []) []) []) [0, 8, 14, 20, 21, 22, 28, 29, 30]) []) (.two (.two (.reg [0, 8, 14, 20, 21, 22, 28, 29, 30, 384, 385, 386] none) (.one (.one (.two (.reg [0, 8, 14, 20, 21, 22, 28, 29, 30, 384, 385, 386, 387] none) (.two (.two .nil .nil [0, 8, 14, 20, 21, 22, 28, 29, 30, 384, 385, 386]) (.two (.one (.two (.reg [0, 8, 14, 20, 21, 22, 28, 29, 30, 41, 384, 385, 386] none) (.two (.reg [0, 8, 14, 20, 21, 22, 28, 29, 30, 41, 42, 384, 385, 386] (some F3p90)) (.two (.reg [0, 8, 14, 20, 21, 22, 28, 29, 30, 42, 43, 384, 385, 386] (some F3p91)) (.two (.reg [0, 8, 14, 20, 21, 22, 28, 29, 30, 384, 385, 386, 424] none) (.two (.two (.reg [6] none) .nil []) .nil [0, 8, 14, 20, 21, 22, 28, 29, 30, 384, 385, 386]) []) []) []) []) [0, 8, 14, 20, 21, 22, 28, 29, 30, 384, 385, 386]) (.reg [0, 8, 14, 20, 21, 22, 28, 29, 30, 384, 385, 386] none) []) []) []) []) [0, 8, 14, 20, 21, 22, 28, 29, 30]) []) (.two (.two (.reg [0, 8, 14, 20, 21, 22, 28, 29, 30, 427, 428] none) (.one (.one (.two (.reg [0, 8, 14, 20, 21, 22, 28, 29, 30, 427, 428, 429] none) (.two (.two .nil .nil [0, 8, 14, 20, 21, 22, 28, 29, 30, 427, 428]) (.two (.one (.two (.reg [0, 8, 14, 20, 21, 22, 28, 29, 30, 44, 427, 428] none) (.two (.reg [0, 8, 14, 20, 21, 22, 28, 29, 30, 44, 427, 428, 435, 436] none) (.one (.one (.two (.reg [0, 8, 14, 20, 21, 22, 28, 29, 30, 44, 427, 428, 435, 436, 437] none) (.two (.two .nil .nil [0, 8, 14, 20, 21, 22, 28, 29, 30, 44, 427, 428, 435, 436]) (.two (.one (.two (.reg [0, 8, 14, 20, 21, 22, 28, 29, 30, 44, 45, 427, 428, 435, 436] none) (.two (.reg [0, 8, 14, 20, 21, 22, 28, 29, 30, 44, 427, 428, 435, 436, 453] (some F3p101)) (.two (.two (.reg [6] none) .nil []) .nil [0, 8, 14, 20, 21, 22, 28, 29, 30, 44, 427, 428, 435, 436]) []) []) [0, 8, 14, 20, 21, 22, 28, 29, 30, 44, 427, 428, 435, 436]) (.reg [0, 8, 14, 20, 21, 22, 28, 29, 30, 44, 427, 428, 435, 436] none) []) []) []) []) [0, 8, 14, 20, 21, 22, 28, 29, 30, 427, 428]) []) []) [0, 8, 14, 20, 21, 22, 28, 29, 30, 427, 428]) (.reg [0, 8, 14, 20, 21, 22, 28, 29, 30, 427, 428] none) []) []) []) []) [0, 8, 14, 20, 21, 22, 29, 30]) []) (.two (.reg [0, 8, 14, 20, 21, 22, 28, 29] none) (.two (.reg [0, 8, 14, 20, 21, 22, 28, 29] none) (.two (.reg [0, 8, 14, 20, 21, 22, 28, 29, 462] none) (.two (.two (.reg [6] none) .nil []) .nil [0, 8, 14, 20, 21, 22, 28, 29]) []) []) []) []) []) []) []) [0, 8, 14, 20, 21, 22, 28, 29]) (.reg [0, 8, 14, 20, 21, 22, 28, 29] none) []) []) []) []) []) (.two (.reg [6] none) .nil []) []) []) []) []) []) []) []) []) []) []) []) []) []) []) []) []) []) []) [])
theorem F3_comp : Go.Proofs.Try.f3.body.bind (compC Go.Proofs.Try.prog 463 F3a) = some F3 := by kernel_rfl
theorem F3_call {args : List Value} (hn : args.length ≤ 463) {A : AHeap} {K : Value → AHeap → Prop} (h : wpC Go.Proofs.Try.prog F3 (enterE 0 args) A (endK [.tmp 6] K)) : dcall Go.Proofs.Try.prog 3 args A K :=
  dcall_by (fn := Go.Proofs.Try.f3) (ann := F3a) mixed_on Go.Proofs.Try.func3 F3_comp rfl hn h
end Go.Proofs.Ytckdmhjhjfmcdaa.Sx
