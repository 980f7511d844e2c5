/- The functions' texts, as the evaluator takes them (printed by a program). -/
import Derived.Test.YtiplefdmpcjgcaaGreatEvDefs
namespace Go.Ev.S
open Go Go.Ev

/-! 2: gosem.cut.init -/
def f2r0 : List I := [⟨(some 0), none, [], false, .call 1 []⟩]
def f2 : Fn := ⟨[], (.reg false f2r0), []⟩
/-! 3: stolon/stolonlaw09.DbHears -/
def f3r0 : List I := [⟨(some 3), none, [], false, .box (.t 0)⟩,
  ⟨(some 5), none, [], false, .box (.t 2)⟩,
  ⟨(some 6), none, [], false, .mv (.c (.bool false))⟩]
def f3r1 : List I := [⟨(some 14), none, [], false, .call 9 []⟩,
  ⟨(some 7), none, [], false, .mv (.t 14)⟩]
def f3r2 : List I := [⟨(some 15), none, [], false, .ld true 4 (.t 3)⟩,
  ⟨(some 16), none, [], false, .call 10 [(.t 15)]⟩,
  ⟨(some 17), none, [], false, .un .not (.t 16)⟩,
  ⟨(some 18), none, [], false, .mv (.t 17)⟩,
  ⟨(some 19), (some (18, false)), [], false, .ld true 4 (.t 3)⟩,
  ⟨(some 20), (some (18, false)), [], false, .call 11 [(.t 19)]⟩,
  ⟨(some 21), (some (18, false)), [], false, .un .not (.t 20)⟩,
  ⟨(some 22), none, [], false, .pick (.t 18) (.c (.bool true)) (.t 21)⟩,
  ⟨(some 23), none, [], false, .mv (.t 22)⟩,
  ⟨(some 24), (some (23, false)), [], false, .ld true 9 (.t 5)⟩,
  ⟨(some 25), (some (23, false)), [], false, .call 12 [(.t 24)]⟩,
  ⟨(some 26), (some (23, false)), [], false, .un .not (.t 25)⟩,
  ⟨(some 27), none, [], false, .pick (.t 23) (.c (.bool true)) (.t 26)⟩,
  ⟨(some 28), none, [], false, .mv (.t 27)⟩,
  ⟨(some 29), (some (28, false)), [], false, .ld true 9 (.t 5)⟩,
  ⟨(some 30), (some (28, false)), [], false, .call 13 [(.t 29)]⟩,
  ⟨(some 31), (some (28, false)), [], false, .un .not (.t 30)⟩,
  ⟨(some 32), none, [], false, .pick (.t 28) (.c (.bool true)) (.t 31)⟩]
def f3r3 : List I := [⟨(some 33), none, [], false, .mv (.t 7)⟩,
  ⟨(some 6), none, [], false, .mv (.t 33)⟩]
def f3r4 : List I := [⟨(some 35), none, [], false, .ld true 4 (.t 3)⟩,
  ⟨(some 36), none, [], false, .mv (.t 1)⟩,
  ⟨(some 37), none, [], false, .ld true 9 (.t 5)⟩,
  ⟨(some 38), none, [], false, .call 14 [(.t 35), (.t 36), (.t 37)]⟩,
  ⟨(some 34), none, [], false, .mv (.t 38)⟩,
  ⟨(some 39), none, [], false, .ext 0 (.t 34)⟩,
  ⟨(some 40), none, [], false, .ext 1 (.t 34)⟩,
  ⟨(some 41), none, [], false, .ext 2 (.t 34)⟩,
  ⟨(some 8), none, [], false, .alloc [.int .i64 0, .int .i64 0, .int .i64 0, nilS]⟩,
  ⟨none, none, [], false, .st 4 (.t 8) (.t 39)⟩,
  ⟨(some 9), none, [], false, .mv (.t 40)⟩,
  ⟨(some 10), none, [], false, .mv (.t 41)⟩]
def f3r5 : List I := [⟨(some 43), none, [], false, .ld true 4 (.t 3)⟩,
  ⟨(some 44), none, [], false, .mv (.t 1)⟩,
  ⟨(some 45), none, [], false, .ld true 9 (.t 5)⟩,
  ⟨(some 46), none, [], false, .call 15 [(.t 43), (.t 44), (.t 45)]⟩,
  ⟨(some 42), none, [], false, .mv (.t 46)⟩,
  ⟨(some 47), none, [], false, .ext 0 (.t 42)⟩,
  ⟨(some 48), none, [], false, .ext 1 (.t 42)⟩,
  ⟨(some 49), none, [], false, .ext 2 (.t 42)⟩,
  ⟨(some 11), none, [], false, .alloc [.int .i64 0, .int .i64 0, .int .i64 0, nilS]⟩,
  ⟨none, none, [], false, .st 4 (.t 11) (.t 47)⟩,
  ⟨(some 12), none, [], false, .mv (.t 48)⟩,
  ⟨(some 13), none, [], false, .mv (.t 49)⟩]
def f3r6 : List I := [⟨(some 50), none, [], false, .mv (.t 7)⟩,
  ⟨(some 51), none, [], false, .mv (.t 50)⟩,
  ⟨(some 52), (some (51, true)), [], false, .ld true 4 (.t 8)⟩,
  ⟨(some 53), (some (51, true)), [], false, .ld true 4 (.t 11)⟩,
  ⟨(some 54), (some (51, true)), [], false, .call 16 [(.t 52), (.t 53)]⟩,
  ⟨(some 55), none, [], false, .pick (.t 51) (.t 54) (.c (.bool false))⟩,
  ⟨(some 56), none, [], false, .mv (.t 55)⟩,
  ⟨(some 57), (some (56, true)), [], false, .mv (.t 9)⟩,
  ⟨(some 58), (some (56, true)), [], false, .mv (.t 12)⟩,
  ⟨(some 59), (some (56, true)), [], false, .call 17 [(.t 57), (.t 58)]⟩,
  ⟨(some 60), none, [], false, .pick (.t 56) (.t 59) (.c (.bool false))⟩,
  ⟨(some 61), none, [], false, .mv (.t 60)⟩,
  ⟨(some 62), (some (61, true)), [], false, .mv (.t 10)⟩,
  ⟨(some 63), (some (61, true)), [], false, .mv (.t 13)⟩,
  ⟨(some 64), (some (61, true)), [], false, .bin .eql .other (.t 62) (.t 63)⟩,
  ⟨(some 65), none, [], false, .pick (.t 61) (.t 64) (.c (.bool false))⟩,
  ⟨(some 6), none, [], false, .mv (.t 65)⟩]
def f3 : Fn := ⟨[0, 1, 2, 3, 5, 6, 7, 8, 9, 10, 11, 12, 13, 32], (.seq (.reg false f3r0) (.seq (.reg false f3r1) (.seq (.seq (.reg false f3r2) (.cond (.t 32) (.seq (.reg false f3r3) .ret) .skip)) (.seq (.reg false f3r4) (.seq (.reg false f3r5) (.seq (.reg false f3r6) .ret)))))), [.tmp 6]⟩
/-! 4: stolon/stolonlaw09.DbVersions -/
def f4r0 : List I := [⟨(some 1), none, [], false, .box (.t 0)⟩,
  ⟨(some 2), none, [], false, .mv (.c (.bool false))⟩]
def f4r1 : List I := [⟨(some 14), none, [], false, .fad 0 (.t 1)⟩,
  ⟨(some 15), none, [], false, .ld true 4 (.t 14)⟩,
  ⟨(some 3), none, [], false, .alloc [.int .i64 0, .int .i64 0, .int .i64 0, nilS]⟩,
  ⟨none, none, [], false, .st 4 (.t 3) (.t 15)⟩]
def f4r2 : List I := [⟨(some 16), none, [], false, .fad 4 (.t 1)⟩,
  ⟨(some 17), none, [], false, .ld false 1 (.t 16)⟩,
  ⟨(some 4), none, [], false, .mv (.t 17)⟩]
def f4r3 : List I := [⟨(some 18), none, [], false, .fad 5 (.t 1)⟩,
  ⟨(some 19), none, [], false, .ld false 1 (.t 18)⟩,
  ⟨(some 5), none, [], false, .mv (.t 19)⟩]
def f4r4 : List I := [⟨(some 20), none, [], false, .fad 6 (.t 1)⟩,
  ⟨(some 21), none, [], false, .ld false 1 (.t 20)⟩,
  ⟨(some 6), none, [], false, .mv (.t 21)⟩]
def f4r5 : List I := [⟨(some 22), none, [], false, .call 9 []⟩,
  ⟨(some 7), none, [], false, .mv (.t 22)⟩]
def f4r6 : List I := [⟨(some 23), none, [], false, .ld true 4 (.t 3)⟩,
  ⟨(some 24), none, [], false, .call 10 [(.t 23)]⟩,
  ⟨(some 25), none, [], false, .un .not (.t 24)⟩,
  ⟨(some 26), none, [], false, .mv (.t 25)⟩,
  ⟨(some 27), (some (26, false)), [], false, .ld true 4 (.t 3)⟩,
  ⟨(some 28), (some (26, false)), [], false, .call 11 [(.t 27)]⟩,
  ⟨(some 29), (some (26, false)), [], false, .un .not (.t 28)⟩,
  ⟨(some 30), none, [], false, .pick (.t 26) (.c (.bool true)) (.t 29)⟩,
  ⟨(some 31), none, [], false, .mv (.t 30)⟩,
  ⟨(some 32), (some (31, false)), [], false, .mv (.t 4)⟩,
  ⟨(some 33), (some (31, false)), [], false, .bin .lss .other (.t 32) (.c (.int .i64 0))⟩,
  ⟨(some 34), none, [], false, .pick (.t 31) (.c (.bool true)) (.t 33)⟩,
  ⟨(some 35), none, [], false, .mv (.t 34)⟩,
  ⟨(some 36), (some (35, false)), [], false, .mv (.t 4)⟩,
  ⟨(some 37), (some (35, false)), [], false, .bin .gtr .other (.t 36) (.c (.int .i64 63))⟩,
  ⟨(some 38), none, [], false, .pick (.t 35) (.c (.bool true)) (.t 37)⟩,
  ⟨(some 39), none, [], false, .mv (.t 38)⟩,
  ⟨(some 40), (some (39, false)), [], false, .ld true 4 (.t 3)⟩,
  ⟨(some 41), (some (39, false)), [], false, .mv (.t 4)⟩,
  ⟨(some 42), (some (39, false)), [], false, .mv (.t 5)⟩,
  ⟨(some 43), (some (39, false)), [], false, .mv (.t 6)⟩,
  ⟨(some 44), (some (39, false)), [], false, .call 18 [(.t 40), (.t 41), (.t 42), (.t 43)]⟩,
  ⟨(some 45), (some (39, false)), [], false, .un .not (.t 44)⟩,
  ⟨(some 46), none, [], false, .pick (.t 39) (.c (.bool true)) (.t 45)⟩]
def f4r7 : List I := [⟨(some 47), none, [], false, .mv (.t 7)⟩,
  ⟨(some 2), none, [], false, .mv (.t 47)⟩]
def f4r8 : List I := [⟨(some 49), none, [], false, .ld true 4 (.t 3)⟩,
  ⟨(some 50), none, [], false, .mv (.t 4)⟩,
  ⟨(some 51), none, [], false, .mv (.t 5)⟩,
  ⟨(some 52), none, [], false, .build [.int .u8 0, .int .i64 0, .int .u8 0, .int .u32 0, .bool false, .int .u8 0, .int .u8 0, nilS, nilS] [(0, 1, (.c (.int .u8 18))), (3, 1, (.t 51))]⟩,
  ⟨(some 53), none, [], false, .call 14 [(.t 49), (.t 50), (.t 52)]⟩,
  ⟨(some 48), none, [], false, .mv (.t 53)⟩,
  ⟨(some 54), none, [], false, .ext 0 (.t 48)⟩,
  ⟨(some 55), none, [], false, .ext 1 (.t 48)⟩,
  ⟨(some 56), none, [], false, .ext 2 (.t 48)⟩,
  ⟨(some 8), none, [], false, .alloc [.int .i64 0, .int .i64 0, .int .i64 0, nilS]⟩,
  ⟨none, none, [], false, .st 4 (.t 8) (.t 54)⟩,
  ⟨(some 9), none, [], false, .mv (.t 55)⟩,
  ⟨(some 10), none, [], false, .mv (.t 56)⟩]
def f4r9 : List I := [⟨(some 58), none, [], false, .ld true 4 (.t 8)⟩,
  ⟨(some 59), none, [], false, .mv (.t 4)⟩,
  ⟨(some 60), none, [], false, .mv (.t 5)⟩,
  ⟨(some 61), none, [], false, .build [.int .u8 0, .int .i64 0, .int .u8 0, .int .u32 0, .bool false, .int .u8 0, .int .u8 0, nilS, nilS] [(0, 1, (.c (.int .u8 23))), (3, 1, (.t 60))]⟩,
  ⟨(some 62), none, [], false, .call 14 [(.t 58), (.t 59), (.t 61)]⟩,
  ⟨(some 57), none, [], false, .mv (.t 62)⟩,
  ⟨(some 63), none, [], false, .ext 0 (.t 57)⟩,
  ⟨(some 64), none, [], false, .ext 1 (.t 57)⟩,
  ⟨(some 65), none, [], false, .ext 2 (.t 57)⟩,
  ⟨(some 11), none, [], false, .alloc [.int .i64 0, .int .i64 0, .int .i64 0, nilS]⟩,
  ⟨none, none, [], false, .st 4 (.t 11) (.t 63)⟩,
  ⟨(some 12), none, [], false, .mv (.t 64)⟩,
  ⟨(some 13), none, [], false, .mv (.t 65)⟩]
def f4r10 : List I := [⟨(some 66), none, [], false, .mv (.t 10)⟩,
  ⟨(some 67), none, [], false, .bin .eql .other (.t 66) (.c (.int .i64 1))⟩]
def f4r11 : List I := [⟨(some 68), none, [], false, .mv (.t 7)⟩,
  ⟨(some 69), none, [], false, .mv (.t 68)⟩,
  ⟨(some 70), (some (69, true)), [], false, .ld true 4 (.t 8)⟩,
  ⟨(some 71), (some (69, true)), [], false, .ld true 4 (.t 3)⟩,
  ⟨(some 72), (some (69, true)), [], false, .call 16 [(.t 70), (.t 71)]⟩,
  ⟨(some 73), none, [], false, .pick (.t 69) (.t 72) (.c (.bool false))⟩,
  ⟨(some 2), none, [], false, .mv (.t 73)⟩]
def f4r12 : List I := [⟨(some 74), none, [], false, .mv (.t 7)⟩,
  ⟨(some 75), none, [], false, .mv (.t 74)⟩,
  ⟨(some 76), (some (75, true)), [], false, .mv (.t 9)⟩,
  ⟨(some 77), (some (75, true)), [], false, .len (.t 76)⟩,
  ⟨(some 78), (some (75, true)), [], false, .mv (.t 12)⟩,
  ⟨(some 79), (some (75, true)), [], false, .len (.t 78)⟩,
  ⟨(some 80), (some (75, true)), [], false, .bin .add .other (.t 77) (.t 79)⟩,
  ⟨(some 81), (some (75, true)), [], false, .bin .eql .other (.t 80) (.c (.int .i64 0))⟩,
  ⟨(some 82), none, [], false, .pick (.t 75) (.t 81) (.c (.bool false))⟩,
  ⟨(some 83), none, [], false, .mv (.t 82)⟩,
  ⟨(some 84), (some (83, true)), [], false, .ld true 4 (.t 8)⟩,
  ⟨(some 85), (some (83, true)), [], false, .ld true 4 (.t 11)⟩,
  ⟨(some 86), (some (83, true)), [], false, .call 16 [(.t 84), (.t 85)]⟩,
  ⟨(some 87), none, [], false, .pick (.t 83) (.t 86) (.c (.bool false))⟩,
  ⟨(some 88), none, [], false, .mv (.t 87)⟩,
  ⟨(some 89), (some (88, true)), [], false, .ld true 4 (.t 11)⟩,
  ⟨(some 90), (some (88, true)), [], false, .mv (.t 4)⟩,
  ⟨(some 91), (some (88, true)), [], false, .mv (.t 5)⟩,
  ⟨(some 92), (some (88, true)), [], false, .mv (.t 6)⟩,
  ⟨(some 93), (some (88, true)), [], false, .call 18 [(.t 89), (.t 90), (.t 91), (.t 92)]⟩,
  ⟨(some 94), none, [], false, .pick (.t 88) (.t 93) (.c (.bool false))⟩,
  ⟨(some 2), none, [], false, .mv (.t 94)⟩]
def f4 : Fn := ⟨[0, 1, 2, 3, 4, 5, 6, 7, 8, 9, 10, 11, 12, 46, 67], (.seq (.reg false f4r0) (.seq (.reg false f4r1) (.seq (.reg false f4r2) (.seq (.reg false f4r3) (.seq (.reg false f4r4) (.seq (.reg false f4r5) (.seq (.seq (.reg false f4r6) (.cond (.t 46) (.seq (.reg false f4r7) .ret) .skip)) (.seq (.reg false f4r8) (.seq (.reg false f4r9) (.seq (.seq (.reg false f4r10) (.cond (.t 67) (.seq (.reg false f4r11) .ret) .skip)) (.seq (.reg false f4r12) .ret))))))))))), [.tmp 2]⟩
/-! 5: stolon/stolonlaw09.DbRoom -/
def f5r0 : List I := [⟨(some 3), none, [], false, .box (.t 0)⟩,
  ⟨(some 6), none, [], false, .mv (.c (.bool false))⟩]
def f5r1 : List I := [⟨(some 14), none, [], false, .call 9 []⟩,
  ⟨(some 7), none, [], false, .mv (.t 14)⟩]
def f5r2 : List I := [⟨(some 15), none, [], false, .mv (.t 2)⟩,
  ⟨(some 16), none, [], false, .build [.int .u8 0, .int .i64 0, .int .u8 0, .int .u32 0, .bool false, .int .u8 0, .int .u8 0, nilS, nilS] [(0, 1, (.c (.int .u8 22))), (3, 1, (.t 15))]⟩,
  ⟨(some 8), none, [], false, .alloc [.int .u8 0, .int .i64 0, .int .u8 0, .int .u32 0, .bool false, .int .u8 0, .int .u8 0, nilS, nilS]⟩,
  ⟨none, none, [], false, .st 9 (.t 8) (.t 16)⟩]
def f5r3 : List I := [⟨(some 17), none, [], false, .ld true 4 (.t 3)⟩,
  ⟨(some 18), none, [], false, .call 10 [(.t 17)]⟩,
  ⟨(some 19), none, [], false, .un .not (.t 18)⟩,
  ⟨(some 20), none, [], false, .mv (.t 19)⟩,
  ⟨(some 21), (some (20, false)), [], false, .ld true 4 (.t 3)⟩,
  ⟨(some 22), (some (20, false)), [], false, .call 11 [(.t 21)]⟩,
  ⟨(some 23), (some (20, false)), [], false, .un .not (.t 22)⟩,
  ⟨(some 24), none, [], false, .pick (.t 20) (.c (.bool true)) (.t 23)⟩,
  ⟨(some 25), none, [], false, .mv (.t 24)⟩,
  ⟨(some 26), (some (25, false)), [], false, .mv (.t 1)⟩,
  ⟨(some 27), (some (25, false)), [], false, .bin .lss .other (.t 26) (.c (.int .i64 0))⟩,
  ⟨(some 28), none, [], false, .pick (.t 25) (.c (.bool true)) (.t 27)⟩,
  ⟨(some 29), none, [], false, .mv (.t 28)⟩,
  ⟨(some 30), (some (29, false)), [], false, .mv (.t 1)⟩,
  ⟨(some 31), (some (29, false)), [], false, .bin .gtr .other (.t 30) (.c (.int .i64 63))⟩,
  ⟨(some 32), none, [], false, .pick (.t 29) (.c (.bool true)) (.t 31)⟩,
  ⟨(some 33), none, [], false, .mv (.t 32)⟩,
  ⟨(some 34), (some (33, false)), [], false, .mv (.t 2)⟩,
  ⟨(some 35), (some (33, false)), [], false, .build [.int .u32 0, .bool false, .int .i64 0, nilS] [(0, 1, (.t 34))]⟩,
  ⟨(some 36), (some (33, false)), [], false, .call 19 [(.t 35)]⟩,
  ⟨(some 37), (some (33, false)), [], false, .un .not (.t 36)⟩,
  ⟨(some 38), none, [], false, .pick (.t 33) (.c (.bool true)) (.t 37)⟩]
def f5r4 : List I := [⟨(some 39), none, [], false, .mv (.t 7)⟩,
  ⟨(some 6), none, [], false, .mv (.t 39)⟩]
def f5r5 : List I := [⟨(some 9), none, [], false, .mv (.c (.bool false))⟩]
def f5r6 : List I := [⟨(some 10), none, [], false, .mv (.c (.int .i64 0))⟩]
def f5r7 : List I := [⟨(some 40), none, [], false, .mv (.t 10)⟩,
  ⟨(some 41), none, [], false, .fad 3 (.t 3)⟩,
  ⟨(some 42), none, [], false, .ld false 1 (.t 41)⟩,
  ⟨(some 43), none, [], false, .len (.t 42)⟩,
  ⟨(some 44), none, [], false, .bin .lss .other (.t 40) (.t 43)⟩]
def f5r8 : List I := [⟨(some 47), none, [], false, .mv (.t 9)⟩,
  ⟨(some 48), none, [], false, .mv (.t 47)⟩,
  ⟨(some 49), (some (48, false)), [], false, .fad 3 (.t 3)⟩,
  ⟨(some 50), (some (48, false)), [], false, .ld false 1 (.t 49)⟩,
  ⟨(some 51), (some (48, false)), [], false, .mv (.t 10)⟩,
  ⟨(some 52), (some (48, false)), [], false, .iad 7 none (.t 50) (.t 51)⟩,
  ⟨(some 53), (some (48, false)), [], false, .fad 0 (.t 52)⟩,
  ⟨(some 54), (some (48, false)), [], false, .ld false 1 (.t 53)⟩,
  ⟨(some 55), (some (48, false)), [], false, .mv (.t 1)⟩,
  ⟨(some 56), (some (48, false)), [], false, .bin .eql .other (.t 54) (.t 55)⟩,
  ⟨(some 57), (some (48, false)), [], false, .mv (.t 56)⟩,
  ⟨(some 58), (some (57, true)), [], false, .fad 3 (.t 3)⟩,
  ⟨(some 59), (some (57, true)), [], false, .ld false 1 (.t 58)⟩,
  ⟨(some 60), (some (57, true)), [], false, .mv (.t 10)⟩,
  ⟨(some 61), (some (57, true)), [], false, .iad 7 none (.t 59) (.t 60)⟩,
  ⟨(some 62), (some (57, true)), [], false, .fad 3 (.t 61)⟩,
  ⟨(some 63), (some (57, true)), [], false, .fad 0 (.t 62)⟩,
  ⟨(some 64), (some (57, true)), [], false, .ld false 1 (.t 63)⟩,
  ⟨(some 65), (some (57, true)), [], false, .mv (.t 2)⟩,
  ⟨(some 66), (some (57, true)), [], false, .bin .eql .other (.t 64) (.t 65)⟩,
  ⟨(some 67), (some (48, false)), [], false, .pick (.t 57) (.t 66) (.c (.bool false))⟩,
  ⟨(some 68), none, [], false, .pick (.t 48) (.c (.bool true)) (.t 67)⟩,
  ⟨(some 9), none, [], false, .mv (.t 68)⟩]
def f5r9 : List I := [⟨(some 45), none, [], false, .mv (.t 10)⟩,
  ⟨(some 46), none, [], false, .bin .add .other (.t 45) (.c (.int .i64 1))⟩,
  ⟨(some 10), none, [], false, .mv (.t 46)⟩]
def f5l0 : C := (.seq (.seq (.reg false f5r7) (.cond (.t 44) .skip (.exit 0))) (.seq (.block 1 (.reg false f5r8)) (.reg false f5r9)))
def f5r10 : List I := [⟨(some 70), none, [], false, .ld true 4 (.t 3)⟩,
  ⟨(some 71), none, [], false, .mv (.t 1)⟩,
  ⟨(some 72), none, [], false, .ld true 9 (.t 8)⟩,
  ⟨(some 73), none, [], false, .call 14 [(.t 70), (.t 71), (.t 72)]⟩,
  ⟨(some 69), none, [], false, .mv (.t 73)⟩,
  ⟨(some 74), none, [], false, .ext 0 (.t 69)⟩,
  ⟨(some 75), none, [], false, .ext 1 (.t 69)⟩,
  ⟨(some 76), none, [], false, .ext 2 (.t 69)⟩,
  ⟨(some 11), none, [], false, .alloc [.int .i64 0, .int .i64 0, .int .i64 0, nilS]⟩,
  ⟨none, none, [], false, .st 4 (.t 11) (.t 74)⟩,
  ⟨(some 12), none, [], false, .mv (.t 75)⟩,
  ⟨(some 13), none, [], false, .mv (.t 76)⟩]
def f5r11 : List I := [⟨(some 77), none, [], false, .fad 3 (.t 11)⟩,
  ⟨(some 78), none, [], false, .ld false 1 (.t 77)⟩,
  ⟨(some 79), none, [], false, .len (.t 78)⟩,
  ⟨(some 80), none, [], false, .fad 2 (.t 11)⟩,
  ⟨(some 81), none, [], false, .ld false 1 (.t 80)⟩,
  ⟨(some 82), none, [], false, .bin .gtr .other (.t 79) (.t 81)⟩,
  ⟨(some 83), none, [], false, .mv (.t 82)⟩,
  ⟨(some 84), (some (83, false)), [], false, .mv (.t 13)⟩,
  ⟨(some 85), (some (83, false)), [], false, .bin .gtr .other (.t 84) (.c (.int .i64 1))⟩,
  ⟨(some 86), none, [], false, .pick (.t 83) (.c (.bool true)) (.t 85)⟩,
  ⟨(some 87), none, [], false, .mv (.t 86)⟩,
  ⟨(some 88), (some (87, false)), [], false, .mv (.t 13)⟩,
  ⟨(some 89), (some (87, false)), [], false, .bin .lss .other (.t 88) (.c (.int .i64 0))⟩,
  ⟨(some 90), none, [], false, .pick (.t 87) (.c (.bool true)) (.t 89)⟩]
def f5r12 : List I := [⟨(some 6), none, [], false, .mv (.c (.bool false))⟩]
def f5r13 : List I := [⟨(some 91), none, [], false, .mv (.t 9)⟩,
  ⟨(some 92), none, [], false, .un .not (.t 91)⟩]
def f5r14 : List I := [⟨(some 93), none, [], false, .mv (.t 7)⟩,
  ⟨(some 94), none, [], false, .mv (.t 93)⟩,
  ⟨(some 95), (some (94, true)), [], false, .mv (.t 13)⟩,
  ⟨(some 96), (some (94, true)), [], false, .bin .eql .other (.t 95) (.c (.int .i64 1))⟩,
  ⟨(some 97), (some (94, true)), [], false, .fad 3 (.t 3)⟩,
  ⟨(some 98), (some (94, true)), [], false, .ld false 1 (.t 97)⟩,
  ⟨(some 99), (some (94, true)), [], false, .len (.t 98)⟩,
  ⟨(some 100), (some (94, true)), [], false, .fad 2 (.t 3)⟩,
  ⟨(some 101), (some (94, true)), [], false, .ld false 1 (.t 100)⟩,
  ⟨(some 102), (some (94, true)), [], false, .bin .geq .other (.t 99) (.t 101)⟩,
  ⟨(some 103), (some (94, true)), [], false, .bin .eql .flat (.t 96) (.t 102)⟩,
  ⟨(some 104), none, [], false, .pick (.t 94) (.t 103) (.c (.bool false))⟩,
  ⟨(some 105), none, [], false, .mv (.t 104)⟩,
  ⟨(some 106), (some (105, true)), [], false, .fad 3 (.t 11)⟩,
  ⟨(some 107), (some (105, true)), [], false, .ld false 1 (.t 106)⟩,
  ⟨(some 108), (some (105, true)), [], false, .len (.t 107)⟩,
  ⟨(some 109), (some (105, true)), [], false, .fad 3 (.t 3)⟩,
  ⟨(some 110), (some (105, true)), [], false, .ld false 1 (.t 109)⟩,
  ⟨(some 111), (some (105, true)), [], false, .len (.t 110)⟩,
  ⟨(some 112), (some (105, true)), [], false, .bin .add .other (.t 111) (.c (.int .i64 1))⟩,
  ⟨(some 113), (some (105, true)), [], false, .mv (.t 13)⟩,
  ⟨(some 114), (some (105, true)), [], false, .bin .sub .other (.t 112) (.t 113)⟩,
  ⟨(some 115), (some (105, true)), [], false, .bin .eql .other (.t 108) (.t 114)⟩,
  ⟨(some 116), none, [], false, .pick (.t 105) (.t 115) (.c (.bool false))⟩,
  ⟨(some 6), none, [], false, .mv (.t 116)⟩]
def f5r15 : List I := [⟨(some 117), none, [], false, .mv (.t 7)⟩,
  ⟨(some 118), none, [], false, .mv (.t 117)⟩,
  ⟨(some 119), (some (118, true)), [], false, .fad 3 (.t 11)⟩,
  ⟨(some 120), (some (118, true)), [], false, .ld false 1 (.t 119)⟩,
  ⟨(some 121), (some (118, true)), [], false, .len (.t 120)⟩,
  ⟨(some 122), (some (118, true)), [], false, .fad 3 (.t 3)⟩,
  ⟨(some 123), (some (118, true)), [], false, .ld false 1 (.t 122)⟩,
  ⟨(some 124), (some (118, true)), [], false, .len (.t 123)⟩,
  ⟨(some 125), (some (118, true)), [], false, .bin .eql .other (.t 121) (.t 124)⟩,
  ⟨(some 126), none, [], false, .pick (.t 118) (.t 125) (.c (.bool false))⟩,
  ⟨(some 127), none, [], false, .mv (.t 126)⟩,
  ⟨(some 128), (some (127, true)), [], false, .mv (.t 13)⟩,
  ⟨(some 129), (some (127, true)), [], false, .bin .eql .other (.t 128) (.c (.int .i64 0))⟩,
  ⟨(some 130), none, [], false, .pick (.t 127) (.t 129) (.c (.bool false))⟩,
  ⟨(some 6), none, [], false, .mv (.t 130)⟩]
def f5 : Fn := ⟨[0, 1, 2, 3, 6, 7, 8, 9, 10, 11, 13, 38, 44, 90, 92], (.seq (.reg false f5r0) (.seq (.reg false f5r1) (.seq (.reg false f5r2) (.seq (.seq (.reg false f5r3) (.cond (.t 38) (.seq (.reg false f5r4) .ret) .skip)) (.seq (.reg false f5r5) (.seq (.seq (.reg false f5r6) (.block 0 (.loop f5l0))) (.seq (.reg false f5r10) (.seq (.seq (.reg false f5r11) (.cond (.t 90) (.seq (.reg false f5r12) .ret) .skip)) (.seq (.seq (.reg false f5r13) (.cond (.t 92) (.seq (.reg false f5r14) .ret) .skip)) (.seq (.reg false f5r15) .ret)))))))))), [.tmp 6]⟩
/-! 6: stolon/stolonlaw09.DbStays -/
def f6r0 : List I := [⟨(some 1), none, [], false, .box (.t 0)⟩,
  ⟨(some 2), none, [], false, .mv (.c (.bool false))⟩]
def f6r1 : List I := [⟨(some 14), none, [], false, .fad 0 (.t 1)⟩,
  ⟨(some 15), none, [], false, .ld true 4 (.t 14)⟩,
  ⟨(some 3), none, [], false, .alloc [.int .i64 0, .int .i64 0, .int .i64 0, nilS]⟩,
  ⟨none, none, [], false, .st 4 (.t 3) (.t 15)⟩]
def f6r2 : List I := [⟨(some 16), none, [], false, .fad 4 (.t 1)⟩,
  ⟨(some 17), none, [], false, .ld false 1 (.t 16)⟩,
  ⟨(some 4), none, [], false, .mv (.t 17)⟩]
def f6r3 : List I := [⟨(some 18), none, [], false, .fad 5 (.t 1)⟩,
  ⟨(some 19), none, [], false, .ld true 9 (.t 18)⟩,
  ⟨(some 5), none, [], false, .alloc [.int .u8 0, .int .i64 0, .int .u8 0, .int .u32 0, .bool false, .int .u8 0, .int .u8 0, nilS, nilS]⟩,
  ⟨none, none, [], false, .st 9 (.t 5) (.t 19)⟩]
def f6r4 : List I := [⟨(some 20), none, [], false, .fad 14 (.t 1)⟩,
  ⟨(some 21), none, [], false, .ld false 1 (.t 20)⟩,
  ⟨(some 6), none, [], false, .mv (.t 21)⟩]
def f6r5 : List I := [⟨(some 22), none, [], false, .call 9 []⟩,
  ⟨(some 7), none, [], false, .mv (.t 22)⟩]
def f6r6 : List I := [⟨(some 23), none, [], false, .ld true 4 (.t 3)⟩,
  ⟨(some 24), none, [], false, .call 10 [(.t 23)]⟩,
  ⟨(some 25), none, [], false, .un .not (.t 24)⟩,
  ⟨(some 26), none, [], false, .mv (.t 25)⟩,
  ⟨(some 27), (some (26, false)), [], false, .ld true 4 (.t 3)⟩,
  ⟨(some 28), (some (26, false)), [], false, .call 11 [(.t 27)]⟩,
  ⟨(some 29), (some (26, false)), [], false, .un .not (.t 28)⟩,
  ⟨(some 30), none, [], false, .pick (.t 26) (.c (.bool true)) (.t 29)⟩,
  ⟨(some 31), none, [], false, .mv (.t 30)⟩,
  ⟨(some 32), (some (31, false)), [], false, .ld true 9 (.t 5)⟩,
  ⟨(some 33), (some (31, false)), [], false, .call 12 [(.t 32)]⟩,
  ⟨(some 34), (some (31, false)), [], false, .un .not (.t 33)⟩,
  ⟨(some 35), none, [], false, .pick (.t 31) (.c (.bool true)) (.t 34)⟩,
  ⟨(some 36), none, [], false, .mv (.t 35)⟩,
  ⟨(some 37), (some (36, false)), [], false, .ld true 9 (.t 5)⟩,
  ⟨(some 38), (some (36, false)), [], false, .call 13 [(.t 37)]⟩,
  ⟨(some 39), (some (36, false)), [], false, .un .not (.t 38)⟩,
  ⟨(some 40), none, [], false, .pick (.t 36) (.c (.bool true)) (.t 39)⟩]
def f6r7 : List I := [⟨(some 41), none, [], false, .mv (.t 7)⟩,
  ⟨(some 2), none, [], false, .mv (.t 41)⟩]
def f6r8 : List I := [⟨(some 43), none, [], false, .ld true 4 (.t 3)⟩,
  ⟨(some 44), none, [], false, .mv (.t 4)⟩,
  ⟨(some 45), none, [], false, .ld true 9 (.t 5)⟩,
  ⟨(some 46), none, [], false, .call 14 [(.t 43), (.t 44), (.t 45)]⟩,
  ⟨(some 42), none, [], false, .mv (.t 46)⟩,
  ⟨(some 47), none, [], false, .ext 0 (.t 42)⟩,
  ⟨(some 48), none, [], false, .ext 1 (.t 42)⟩,
  ⟨(some 49), none, [], false, .ext 2 (.t 42)⟩,
  ⟨(some 8), none, [], false, .alloc [.int .i64 0, .int .i64 0, .int .i64 0, nilS]⟩,
  ⟨none, none, [], false, .st 4 (.t 8) (.t 47)⟩,
  ⟨(some 9), none, [], false, .mv (.t 48)⟩,
  ⟨(some 10), none, [], false, .mv (.t 49)⟩]
def f6r9 : List I := [⟨(some 50), none, [], false, .ld true 4 (.t 8)⟩,
  ⟨(some 51), none, [], false, .call 11 [(.t 50)]⟩,
  ⟨(some 52), none, [], false, .un .not (.t 51)⟩,
  ⟨(some 53), none, [], false, .mv (.t 52)⟩,
  ⟨(some 54), (some (53, false)), [], false, .ld true 4 (.t 8)⟩,
  ⟨(some 55), (some (53, false)), [], false, .mv (.t 6)⟩,
  ⟨(some 56), (some (53, false)), [], false, .call 20 [(.t 54), (.t 55)]⟩,
  ⟨(some 57), (some (53, false)), [], false, .call 11 [(.t 56)]⟩,
  ⟨(some 58), (some (53, false)), [], false, .un .not (.t 57)⟩,
  ⟨(some 59), none, [], false, .pick (.t 53) (.c (.bool true)) (.t 58)⟩,
  ⟨(some 60), none, [], false, .mv (.t 59)⟩,
  ⟨(some 61), (some (60, false)), [], false, .mv (.t 10)⟩,
  ⟨(some 62), (some (60, false)), [], false, .bin .lss .other (.t 61) (.c (.int .i64 0))⟩,
  ⟨(some 63), none, [], false, .pick (.t 60) (.c (.bool true)) (.t 62)⟩,
  ⟨(some 64), none, [], false, .mv (.t 63)⟩,
  ⟨(some 65), (some (64, false)), [], false, .mv (.t 10)⟩,
  ⟨(some 66), (some (64, false)), [], false, .fad 8 (.t 5)⟩,
  ⟨(some 67), (some (64, false)), [], false, .ld false 1 (.t 66)⟩,
  ⟨(some 68), (some (64, false)), [], false, .len (.t 67)⟩,
  ⟨(some 69), (some (64, false)), [], false, .mx (.t 68) [(.c (.int .i64 1))]⟩,
  ⟨(some 70), (some (64, false)), [], false, .bin .gtr .other (.t 65) (.t 69)⟩,
  ⟨(some 71), none, [], false, .pick (.t 64) (.c (.bool true)) (.t 70)⟩]
def f6r10 : List I := [⟨(some 2), none, [], false, .mv (.c (.bool false))⟩]
def f6r11 : List I := [⟨(some 11), none, [], false, .mv (.c (.int .i64 0))⟩]
def f6r12 : List I := [⟨(some 72), none, [], false, .mv (.t 11)⟩,
  ⟨(some 73), none, [], false, .mv (.t 9)⟩,
  ⟨(some 74), none, [], false, .len (.t 73)⟩,
  ⟨(some 75), none, [], false, .bin .lss .other (.t 72) (.t 74)⟩]
def f6r13 : List I := [⟨(some 78), none, [], false, .mv (.t 9)⟩,
  ⟨(some 79), none, [], false, .mv (.t 11)⟩,
  ⟨(some 80), none, [], false, .iad 3 none (.t 78) (.t 79)⟩,
  ⟨(some 81), none, [], false, .fad 0 (.t 80)⟩,
  ⟨(some 82), none, [], false, .ld false 1 (.t 81)⟩,
  ⟨(some 83), none, [], false, .mv (.t 4)⟩,
  ⟨(some 84), none, [], false, .bin .neq .other (.t 82) (.t 83)⟩]
def f6r14 : List I := [⟨(some 2), none, [], false, .mv (.c (.bool false))⟩]
def f6r15 : List I := [⟨(some 76), none, [], false, .mv (.t 11)⟩,
  ⟨(some 77), none, [], false, .bin .add .other (.t 76) (.c (.int .i64 1))⟩,
  ⟨(some 11), none, [], false, .mv (.t 77)⟩]
def f6l0 : C := (.seq (.seq (.reg false f6r12) (.cond (.t 75) .skip (.exit 0))) (.seq (.block 1 (.seq (.reg false f6r13) (.cond (.t 84) (.seq (.reg false f6r14) .ret) .skip))) (.reg false f6r15)))
def f6r16 : List I := [⟨(some 12), none, [], false, .mv (.c (.int .i64 0))⟩]
def f6r17 : List I := [⟨(some 13), none, [], false, .mv (.c (.int .i64 0))⟩]
def f6r18 : List I := [⟨(some 85), none, [], false, .mv (.t 13)⟩,
  ⟨(some 86), none, [], false, .fad 3 (.t 3)⟩,
  ⟨(some 87), none, [], false, .ld false 1 (.t 86)⟩,
  ⟨(some 88), none, [], false, .len (.t 87)⟩,
  ⟨(some 89), none, [], false, .bin .lss .other (.t 85) (.t 88)⟩]
def f6r19 : List I := [⟨(some 92), none, [], false, .fad 3 (.t 3)⟩,
  ⟨(some 93), none, [], false, .ld false 1 (.t 92)⟩,
  ⟨(some 94), none, [], false, .mv (.t 13)⟩,
  ⟨(some 95), none, [], false, .iad 7 none (.t 93) (.t 94)⟩,
  ⟨(some 96), none, [], false, .fad 0 (.t 95)⟩,
  ⟨(some 97), none, [], false, .ld false 1 (.t 96)⟩,
  ⟨(some 98), none, [], false, .mv (.t 4)⟩,
  ⟨(some 99), none, [], false, .bin .eql .other (.t 97) (.t 98)⟩]
def f6r20 : List I := [⟨(some 100), none, [], false, .mv (.t 12)⟩,
  ⟨(some 101), none, [], false, .fad 3 (.t 8)⟩,
  ⟨(some 102), none, [], false, .ld false 1 (.t 101)⟩,
  ⟨(some 103), none, [], false, .len (.t 102)⟩,
  ⟨(some 104), none, [], false, .bin .lss .other (.t 100) (.t 103)⟩,
  ⟨(some 105), none, [], false, .mv (.t 104)⟩,
  ⟨(some 106), (some (105, true)), [], false, .fad 3 (.t 8)⟩,
  ⟨(some 107), (some (105, true)), [], false, .ld false 1 (.t 106)⟩,
  ⟨(some 108), (some (105, true)), [], false, .mv (.t 12)⟩,
  ⟨(some 109), (some (105, true)), [], false, .iad 7 none (.t 107) (.t 108)⟩,
  ⟨(some 110), (some (105, true)), [], false, .fad 0 (.t 109)⟩,
  ⟨(some 111), (some (105, true)), [], false, .ld false 1 (.t 110)⟩,
  ⟨(some 112), (some (105, true)), [], false, .mv (.t 4)⟩,
  ⟨(some 113), (some (105, true)), [], false, .bin .eql .other (.t 111) (.t 112)⟩,
  ⟨(some 114), none, [], false, .pick (.t 105) (.t 113) (.c (.bool false))⟩]
def f6r21 : List I := [⟨(some 115), none, [], false, .mv (.t 12)⟩,
  ⟨(some 116), none, [], false, .bin .add .other (.t 115) (.c (.int .i64 1))⟩,
  ⟨(some 12), none, [], false, .mv (.t 116)⟩]
def f6l1 : C := (.seq (.seq (.reg false f6r20) (.cond (.t 114) .skip (.exit 4))) (.block 5 (.reg false f6r21)))
def f6r22 : List I := [⟨(some 117), none, [], false, .mv (.t 12)⟩,
  ⟨(some 118), none, [], false, .fad 3 (.t 8)⟩,
  ⟨(some 119), none, [], false, .ld false 1 (.t 118)⟩,
  ⟨(some 120), none, [], false, .len (.t 119)⟩,
  ⟨(some 121), none, [], false, .bin .geq .other (.t 117) (.t 120)⟩,
  ⟨(some 122), none, [], false, .mv (.t 121)⟩,
  ⟨(some 123), (some (122, false)), [], false, .fad 3 (.t 8)⟩,
  ⟨(some 124), (some (122, false)), [], false, .ld false 1 (.t 123)⟩,
  ⟨(some 125), (some (122, false)), [], false, .mv (.t 12)⟩,
  ⟨(some 126), (some (122, false)), [], false, .mv (.t 12)⟩,
  ⟨(some 127), (some (122, false)), [], false, .bin .add .other (.t 126) (.c (.int .i64 1))⟩,
  ⟨(some 128), (some (122, false)), [], false, .slice 7 (.t 124) (some (.t 125)) (some (.t 127)) none⟩,
  ⟨(some 129), (some (122, false)), [], false, .build [.int .i64 0, .int .i64 0, .int .i64 0, nilS] [(3, 1, (.t 128))]⟩,
  ⟨(some 130), (some (122, false)), [], false, .fad 3 (.t 3)⟩,
  ⟨(some 131), (some (122, false)), [], false, .ld false 1 (.t 130)⟩,
  ⟨(some 132), (some (122, false)), [], false, .mv (.t 13)⟩,
  ⟨(some 133), (some (122, false)), [], false, .mv (.t 13)⟩,
  ⟨(some 134), (some (122, false)), [], false, .bin .add .other (.t 133) (.c (.int .i64 1))⟩,
  ⟨(some 135), (some (122, false)), [], false, .slice 7 (.t 131) (some (.t 132)) (some (.t 134)) none⟩,
  ⟨(some 136), (some (122, false)), [], false, .build [.int .i64 0, .int .i64 0, .int .i64 0, nilS] [(3, 1, (.t 135))]⟩,
  ⟨(some 137), (some (122, false)), [], false, .call 16 [(.t 129), (.t 136)]⟩,
  ⟨(some 138), (some (122, false)), [], false, .un .not (.t 137)⟩,
  ⟨(some 139), none, [], false, .pick (.t 122) (.c (.bool true)) (.t 138)⟩]
def f6r23 : List I := [⟨(some 2), none, [], false, .mv (.c (.bool false))⟩]
def f6r24 : List I := [⟨(some 140), none, [], false, .mv (.t 12)⟩,
  ⟨(some 141), none, [], false, .bin .add .other (.t 140) (.c (.int .i64 1))⟩,
  ⟨(some 12), none, [], false, .mv (.t 141)⟩]
def f6r25 : List I := [⟨(some 90), none, [], false, .mv (.t 13)⟩,
  ⟨(some 91), none, [], false, .bin .add .other (.t 90) (.c (.int .i64 1))⟩,
  ⟨(some 13), none, [], false, .mv (.t 91)⟩]
def f6l2 : C := (.seq (.seq (.reg false f6r18) (.cond (.t 89) .skip (.exit 2))) (.seq (.block 3 (.seq (.seq (.reg false f6r19) (.cond (.t 99) (.exit 3) .skip)) (.seq (.block 4 (.loop f6l1)) (.seq (.seq (.reg true f6r22) (.cond (.t 139) (.seq (.reg false f6r23) .ret) .skip)) (.reg false f6r24))))) (.reg false f6r25)))
def f6r26 : List I := [⟨(some 142), none, [], false, .mv (.t 7)⟩,
  ⟨(some 2), none, [], false, .mv (.t 142)⟩]
def f6 : Fn := ⟨[0, 1, 2, 3, 4, 5, 6, 7, 8, 9, 10, 11, 12, 13, 40, 71, 75, 84, 89, 99, 114, 139], (.seq (.reg false f6r0) (.seq (.reg false f6r1) (.seq (.reg false f6r2) (.seq (.reg false f6r3) (.seq (.reg false f6r4) (.seq (.reg false f6r5) (.seq (.seq (.reg false f6r6) (.cond (.t 40) (.seq (.reg false f6r7) .ret) .skip)) (.seq (.reg false f6r8) (.seq (.seq (.reg false f6r9) (.cond (.t 71) (.seq (.reg false f6r10) .ret) .skip)) (.seq (.seq (.reg false f6r11) (.block 0 (.loop f6l0))) (.seq (.reg false f6r16) (.seq (.seq (.reg false f6r17) (.block 2 (.loop f6l2))) (.seq (.reg false f6r26) .ret))))))))))))), [.tmp 2]⟩
/-! 7: stolon/stolonlaw09.DbTicks -/
def f7r0 : List I := [⟨(some 3), none, [], false, .box (.t 0)⟩,
  ⟨(some 6), none, [], false, .mv (.c (.bool false))⟩]
def f7r1 : List I := [⟨(some 9), none, [], false, .call 9 []⟩,
  ⟨(some 7), none, [], false, .mv (.t 9)⟩]
def f7r2 : List I := [⟨(some 10), none, [], false, .ld true 4 (.t 3)⟩,
  ⟨(some 11), none, [], false, .call 10 [(.t 10)]⟩,
  ⟨(some 12), none, [], false, .un .not (.t 11)⟩,
  ⟨(some 13), none, [], false, .mv (.t 12)⟩,
  ⟨(some 14), (some (13, false)), [], false, .ld true 4 (.t 3)⟩,
  ⟨(some 15), (some (13, false)), [], false, .call 11 [(.t 14)]⟩,
  ⟨(some 16), (some (13, false)), [], false, .un .not (.t 15)⟩,
  ⟨(some 17), none, [], false, .pick (.t 13) (.c (.bool true)) (.t 16)⟩,
  ⟨(some 18), none, [], false, .mv (.t 17)⟩,
  ⟨(some 19), (some (18, false)), [], false, .mv (.t 1)⟩,
  ⟨(some 20), (some (18, false)), [], false, .bin .lss .other (.t 19) (.c (.int .i64 0))⟩,
  ⟨(some 21), none, [], false, .pick (.t 18) (.c (.bool true)) (.t 20)⟩,
  ⟨(some 22), none, [], false, .mv (.t 21)⟩,
  ⟨(some 23), (some (22, false)), [], false, .mv (.t 2)⟩,
  ⟨(some 24), (some (22, false)), [], false, .bin .lss .other (.t 23) (.c (.int .i64 0))⟩,
  ⟨(some 25), none, [], false, .pick (.t 22) (.c (.bool true)) (.t 24)⟩,
  ⟨(some 26), none, [], false, .mv (.t 25)⟩,
  ⟨(some 27), (some (26, false)), [], false, .mv (.t 1)⟩,
  ⟨(some 28), (some (26, false)), [], false, .bin .gtr .other (.t 27) (.c (.int .i64 1000000))⟩,
  ⟨(some 29), none, [], false, .pick (.t 26) (.c (.bool true)) (.t 28)⟩,
  ⟨(some 30), none, [], false, .mv (.t 29)⟩,
  ⟨(some 31), (some (30, false)), [], false, .mv (.t 2)⟩,
  ⟨(some 32), (some (30, false)), [], false, .bin .gtr .other (.t 31) (.c (.int .i64 1000000))⟩,
  ⟨(some 33), none, [], false, .pick (.t 30) (.c (.bool true)) (.t 32)⟩]
def f7r3 : List I := [⟨(some 34), none, [], false, .mv (.t 7)⟩,
  ⟨(some 6), none, [], false, .mv (.t 34)⟩]
def f7r4 : List I := [⟨(some 35), none, [], false, .ld true 4 (.t 3)⟩,
  ⟨(some 36), none, [], false, .mv (.t 1)⟩,
  ⟨(some 37), none, [], false, .call 20 [(.t 35), (.t 36)]⟩,
  ⟨(some 38), none, [], false, .mv (.t 2)⟩,
  ⟨(some 39), none, [], false, .call 20 [(.t 37), (.t 38)]⟩,
  ⟨(some 8), none, [], false, .alloc [.int .i64 0, .int .i64 0, .int .i64 0, nilS]⟩,
  ⟨none, none, [], false, .st 4 (.t 8) (.t 39)⟩]
def f7r5 : List I := [⟨(some 40), none, [], false, .mv (.t 7)⟩,
  ⟨(some 41), none, [], false, .mv (.t 40)⟩,
  ⟨(some 42), (some (41, true)), [], false, .ld true 4 (.t 8)⟩,
  ⟨(some 43), (some (41, true)), [], false, .ld true 4 (.t 3)⟩,
  ⟨(some 44), (some (41, true)), [], false, .mv (.t 1)⟩,
  ⟨(some 45), (some (41, true)), [], false, .mv (.t 2)⟩,
  ⟨(some 46), (some (41, true)), [], false, .bin .add .other (.t 44) (.t 45)⟩,
  ⟨(some 47), (some (41, true)), [], false, .call 20 [(.t 43), (.t 46)]⟩,
  ⟨(some 48), (some (41, true)), [], false, .call 16 [(.t 42), (.t 47)]⟩,
  ⟨(some 49), none, [], false, .pick (.t 41) (.t 48) (.c (.bool false))⟩,
  ⟨(some 50), none, [], false, .mv (.t 49)⟩,
  ⟨(some 51), (some (50, true)), [], false, .ld true 4 (.t 3)⟩,
  ⟨(some 52), (some (50, true)), [], false, .call 20 [(.t 51), (.c (.int .i64 0))]⟩,
  ⟨(some 53), (some (50, true)), [], false, .ld true 4 (.t 3)⟩,
  ⟨(some 54), (some (50, true)), [], false, .call 16 [(.t 52), (.t 53)]⟩,
  ⟨(some 55), none, [], false, .pick (.t 50) (.t 54) (.c (.bool false))⟩,
  ⟨(some 56), none, [], false, .mv (.t 55)⟩,
  ⟨(some 57), (some (56, true)), [], false, .ld true 4 (.t 3)⟩,
  ⟨(some 58), (some (56, true)), [], false, .mv (.t 1)⟩,
  ⟨(some 59), (some (56, true)), [], false, .bin .sub .other (.c (.int .i64 0)) (.t 58)⟩,
  ⟨(some 60), (some (56, true)), [], false, .call 20 [(.t 57), (.t 59)]⟩,
  ⟨(some 61), (some (56, true)), [], false, .ld true 4 (.t 3)⟩,
  ⟨(some 62), (some (56, true)), [], false, .call 16 [(.t 60), (.t 61)]⟩,
  ⟨(some 63), none, [], false, .pick (.t 56) (.t 62) (.c (.bool false))⟩,
  ⟨(some 64), none, [], false, .mv (.t 63)⟩,
  ⟨(some 65), (some (64, true)), [], false, .fad 3 (.t 8)⟩,
  ⟨(some 66), (some (64, true)), [], false, .ld false 1 (.t 65)⟩,
  ⟨(some 67), (some (64, true)), [], false, .len (.t 66)⟩,
  ⟨(some 68), (some (64, true)), [], false, .fad 3 (.t 3)⟩,
  ⟨(some 69), (some (64, true)), [], false, .ld false 1 (.t 68)⟩,
  ⟨(some 70), (some (64, true)), [], false, .len (.t 69)⟩,
  ⟨(some 71), (some (64, true)), [], false, .bin .leq .other (.t 67) (.t 70)⟩,
  ⟨(some 72), none, [], false, .pick (.t 64) (.t 71) (.c (.bool false))⟩,
  ⟨(some 6), none, [], false, .mv (.t 72)⟩]
def f7 : Fn := ⟨[0, 1, 2, 3, 6, 7, 8, 33], (.seq (.reg false f7r0) (.seq (.reg false f7r1) (.seq (.seq (.reg false f7r2) (.cond (.t 33) (.seq (.reg false f7r3) .ret) .skip)) (.seq (.reg false f7r4) (.seq (.reg true f7r5) .ret))))), [.tmp 6]⟩
/-! 8: stolon/stolonlaw09.DbPorts -/
def f8r0 : List I := [⟨(some 3), none, [], false, .box (.t 0)⟩,
  ⟨(some 6), none, [], false, .mv (.c (.bool false))⟩]
def f8r1 : List I := [⟨(some 11), none, [], false, .call 9 []⟩,
  ⟨(some 7), none, [], false, .mv (.t 11)⟩]
def f8r2 : List I := [⟨(some 12), none, [], false, .ld true 4 (.t 3)⟩,
  ⟨(some 13), none, [], false, .call 10 [(.t 12)]⟩,
  ⟨(some 14), none, [], false, .un .not (.t 13)⟩,
  ⟨(some 15), none, [], false, .mv (.t 14)⟩,
  ⟨(some 16), (some (15, false)), [], false, .ld true 4 (.t 3)⟩,
  ⟨(some 17), (some (15, false)), [], false, .call 11 [(.t 16)]⟩,
  ⟨(some 18), (some (15, false)), [], false, .un .not (.t 17)⟩,
  ⟨(some 19), none, [], false, .pick (.t 15) (.c (.bool true)) (.t 18)⟩]
def f8r3 : List I := [⟨(some 20), none, [], false, .mv (.t 7)⟩,
  ⟨(some 6), none, [], false, .mv (.t 20)⟩]
def f8r4 : List I := [⟨(some 21), none, [], false, .ld true 4 (.t 3)⟩,
  ⟨(some 22), none, [], false, .mv (.t 1)⟩,
  ⟨(some 23), none, [], false, .mv (.t 2)⟩,
  ⟨(some 24), none, [], false, .call 21 [(.t 21), (.t 22), (.t 23)]⟩,
  ⟨(some 8), none, [], false, .mv (.t 24)⟩]
def f8r5 : List I := [⟨(some 9), none, [], false, .mv (.c (.int .i64 0))⟩]
def f8r6 : List I := [⟨(some 10), none, [], false, .mv (.c (.int .i64 0))⟩]
def f8r7 : List I := [⟨(some 25), none, [], false, .mv (.t 10)⟩,
  ⟨(some 26), none, [], false, .bin .lss .other (.t 25) (.c (.int .i64 64))⟩]
def f8r8 : List I := [⟨(some 29), none, [], false, .ld true 4 (.t 3)⟩,
  ⟨(some 30), none, [], false, .mv (.t 10)⟩,
  ⟨(some 31), none, [], false, .mv (.t 1)⟩,
  ⟨(some 32), none, [], false, .mv (.t 2)⟩,
  ⟨(some 33), none, [], false, .call 18 [(.t 29), (.t 30), (.t 31), (.t 32)]⟩]
def f8r9 : List I := [⟨(some 34), none, [], false, .mv (.t 9)⟩,
  ⟨(some 35), none, [], false, .mv (.t 8)⟩,
  ⟨(some 36), none, [], false, .len (.t 35)⟩,
  ⟨(some 37), none, [], false, .bin .geq .other (.t 34) (.t 36)⟩,
  ⟨(some 38), none, [], false, .mv (.t 37)⟩,
  ⟨(some 39), (some (38, false)), [], false, .mv (.t 8)⟩,
  ⟨(some 40), (some (38, false)), [], false, .mv (.t 9)⟩,
  ⟨(some 41), (some (38, false)), [], false, .iad 1 none (.t 39) (.t 40)⟩,
  ⟨(some 42), (some (38, false)), [], false, .ld false 1 (.t 41)⟩,
  ⟨(some 43), (some (38, false)), [], false, .mv (.t 10)⟩,
  ⟨(some 44), (some (38, false)), [], false, .bin .neq .other (.t 42) (.t 43)⟩,
  ⟨(some 45), none, [], false, .pick (.t 38) (.c (.bool true)) (.t 44)⟩]
def f8r10 : List I := [⟨(some 6), none, [], false, .mv (.c (.bool false))⟩]
def f8r11 : List I := [⟨(some 46), none, [], false, .mv (.t 9)⟩,
  ⟨(some 47), none, [], false, .bin .add .other (.t 46) (.c (.int .i64 1))⟩,
  ⟨(some 9), none, [], false, .mv (.t 47)⟩]
def f8r12 : List I := [⟨(some 27), none, [], false, .mv (.t 10)⟩,
  ⟨(some 28), none, [], false, .bin .add .other (.t 27) (.c (.int .i64 1))⟩,
  ⟨(some 10), none, [], false, .mv (.t 28)⟩]
def f8l0 : C := (.seq (.seq (.reg false f8r7) (.cond (.t 26) .skip (.exit 0))) (.seq (.block 1 (.seq (.reg false f8r8) (.cond (.t 33) (.seq (.seq (.reg false f8r9) (.cond (.t 45) (.seq (.reg false f8r10) .ret) .skip)) (.reg false f8r11)) .skip))) (.reg false f8r12)))
def f8r13 : List I := [⟨(some 48), none, [], false, .mv (.t 7)⟩,
  ⟨(some 49), none, [], false, .mv (.t 48)⟩,
  ⟨(some 50), (some (49, true)), [], false, .mv (.t 9)⟩,
  ⟨(some 51), (some (49, true)), [], false, .mv (.t 8)⟩,
  ⟨(some 52), (some (49, true)), [], false, .len (.t 51)⟩,
  ⟨(some 53), (some (49, true)), [], false, .bin .eql .other (.t 50) (.t 52)⟩,
  ⟨(some 54), none, [], false, .pick (.t 49) (.t 53) (.c (.bool false))⟩,
  ⟨(some 55), none, [], false, .mv (.t 54)⟩,
  ⟨(some 56), (some (55, true)), [], false, .ld true 4 (.t 3)⟩,
  ⟨(some 57), (some (55, true)), [], false, .call 20 [(.t 56), (.c (.int .i64 1000000))]⟩,
  ⟨(some 58), (some (55, true)), [], false, .fld false 1 3 (.t 57)⟩,
  ⟨(some 59), (some (55, true)), [], false, .len (.t 58)⟩,
  ⟨(some 60), (some (55, true)), [], false, .bin .eql .other (.t 59) (.c (.int .i64 0))⟩,
  ⟨(some 61), none, [], false, .pick (.t 55) (.t 60) (.c (.bool false))⟩,
  ⟨(some 6), none, [], false, .mv (.t 61)⟩]
def f8 : Fn := ⟨[0, 1, 2, 3, 6, 7, 8, 9, 10, 19, 26, 33, 45], (.seq (.reg false f8r0) (.seq (.reg false f8r1) (.seq (.seq (.reg false f8r2) (.cond (.t 19) (.seq (.reg false f8r3) .ret) .skip)) (.seq (.reg false f8r4) (.seq (.reg false f8r5) (.seq (.seq (.reg false f8r6) (.block 0 (.loop f8l0))) (.seq (.reg false f8r13) .ret))))))), [.tmp 6]⟩
/-! 9: stolon/stolonlaw09.shown -/
def f9r0 : List I := [⟨(some 0), none, [], false, .mv (.c (.bool false))⟩]
def f9r1 : List I := [⟨(some 7), none, [], false, .build [.int .i64 0, .int .i64 0] [(0, 1, (.c (.int .i64 10))), (1, 1, (.c (.int .i64 2)))]⟩,
  ⟨(some 8), none, [], false, .call 22 [(.t 7), (.c (.int .i64 1))]⟩,
  ⟨(some 6), none, [], false, .mv (.t 8)⟩,
  ⟨(some 9), none, [], false, .ext 0 (.t 6)⟩,
  ⟨(some 10), none, [], false, .ext 1 (.t 6)⟩,
  ⟨(some 1), none, [], false, .alloc [.int .i64 0, .int .i64 0, .int .i64 0, nilS]⟩,
  ⟨none, none, [], false, .st 4 (.t 1) (.t 9)⟩,
  ⟨(some 2), none, [], false, .mv (.t 10)⟩]
def f9r2 : List I := [⟨(some 12), none, [], false, .ld true 4 (.t 1)⟩,
  ⟨(some 13), none, [], false, .build [.int .u8 0, .int .i64 0, .int .u8 0, .int .u32 0, .bool false, .int .u8 0, .int .u8 0, nilS, nilS] [(0, 1, (.c (.int .u8 22))), (3, 1, (.c (.int .u32 4009820675)))]⟩,
  ⟨(some 14), none, [], false, .call 14 [(.t 12), (.c (.int .i64 3)), (.t 13)]⟩,
  ⟨(some 11), none, [], false, .mv (.t 14)⟩,
  ⟨(some 15), none, [], false, .ext 0 (.t 11)⟩,
  ⟨(some 16), none, [], false, .ext 1 (.t 11)⟩,
  ⟨(some 17), none, [], false, .ext 2 (.t 11)⟩,
  ⟨(some 3), none, [], false, .alloc [.int .i64 0, .int .i64 0, .int .i64 0, nilS]⟩,
  ⟨none, none, [], false, .st 4 (.t 3) (.t 15)⟩,
  ⟨(some 4), none, [], false, .mv (.t 16)⟩,
  ⟨(some 5), none, [], false, .mv (.t 17)⟩]
def f9r3 : List I := [⟨(some 18), none, [], false, .mv (.t 2)⟩,
  ⟨(some 19), none, [], false, .bin .eql .other (.t 18) (.c (.int .i64 0))⟩,
  ⟨(some 20), none, [], false, .mv (.t 19)⟩,
  ⟨(some 21), (some (20, true)), [], false, .mv (.t 4)⟩,
  ⟨(some 22), (some (20, true)), [], false, .len (.t 21)⟩,
  ⟨(some 23), (some (20, true)), [], false, .bin .eql .other (.t 22) (.c (.int .i64 0))⟩,
  ⟨(some 24), none, [], false, .pick (.t 20) (.t 23) (.c (.bool false))⟩,
  ⟨(some 25), none, [], false, .mv (.t 24)⟩,
  ⟨(some 26), (some (25, true)), [], false, .mv (.t 5)⟩,
  ⟨(some 27), (some (25, true)), [], false, .bin .eql .other (.t 26) (.c (.int .i64 0))⟩,
  ⟨(some 28), none, [], false, .pick (.t 25) (.t 27) (.c (.bool false))⟩,
  ⟨(some 29), none, [], false, .mv (.t 28)⟩,
  ⟨(some 30), (some (29, true)), [], false, .ld true 4 (.t 3)⟩,
  ⟨(some 31), (some (29, true)), [], false, .call 18 [(.t 30), (.c (.int .i64 3)), (.c (.int .u32 4009820675)), (.c (.int .u32 7))]⟩,
  ⟨(some 32), none, [], false, .pick (.t 29) (.t 31) (.c (.bool false))⟩,
  ⟨(some 33), none, [], false, .mv (.t 32)⟩,
  ⟨(some 34), (some (33, true)), [], false, .fad 3 (.t 3)⟩,
  ⟨(some 35), (some (33, true)), [], false, .ld false 1 (.t 34)⟩,
  ⟨(some 36), (some (33, true)), [], false, .len (.t 35)⟩,
  ⟨(some 37), (some (33, true)), [], false, .bin .eql .other (.t 36) (.c (.int .i64 1))⟩,
  ⟨(some 38), none, [], false, .pick (.t 33) (.t 37) (.c (.bool false))⟩,
  ⟨(some 39), none, [], false, .mv (.t 38)⟩,
  ⟨(some 40), (some (39, true)), [], false, .fad 3 (.t 3)⟩,
  ⟨(some 41), (some (39, true)), [], false, .ld false 1 (.t 40)⟩,
  ⟨(some 42), (some (39, true)), [], false, .iad 7 none (.t 41) (.c (.int .i64 0))⟩,
  ⟨(some 43), (some (39, true)), [], false, .fad 3 (.t 42)⟩,
  ⟨(some 44), (some (39, true)), [], false, .fad 2 (.t 43)⟩,
  ⟨(some 45), (some (39, true)), [], false, .ld false 1 (.t 44)⟩,
  ⟨(some 46), (some (39, true)), [], false, .bin .eql .other (.t 45) (.c (.int .i64 10))⟩,
  ⟨(some 47), none, [], false, .pick (.t 39) (.t 46) (.c (.bool false))⟩,
  ⟨(some 48), none, [], false, .mv (.t 47)⟩,
  ⟨(some 49), (some (48, true)), [], false, .fad 3 (.t 3)⟩,
  ⟨(some 50), (some (48, true)), [], false, .ld false 1 (.t 49)⟩,
  ⟨(some 51), (some (48, true)), [], false, .iad 7 none (.t 50) (.c (.int .i64 0))⟩,
  ⟨(some 52), (some (48, true)), [], false, .fad 2 (.t 51)⟩,
  ⟨(some 53), (some (48, true)), [], false, .ld false 1 (.t 52)⟩,
  ⟨(some 54), (some (48, true)), [], false, .bin .eql .other (.t 53) (.c (.int .i64 10))⟩,
  ⟨(some 55), none, [], false, .pick (.t 48) (.t 54) (.c (.bool false))⟩,
  ⟨(some 56), none, [], false, .mv (.t 55)⟩,
  ⟨(some 57), (some (56, true)), [], false, .ld true 4 (.t 3)⟩,
  ⟨(some 58), (some (56, true)), [], false, .call 23 [(.t 57)]⟩,
  ⟨(some 59), none, [], false, .pick (.t 56) (.t 58) (.c (.bool false))⟩,
  ⟨(some 0), none, [], false, .mv (.t 59)⟩]
def f9 : Fn := ⟨[0, 1, 2, 3, 4, 5], (.seq (.reg false f9r0) (.seq (.reg false f9r1) (.seq (.reg false f9r2) (.seq (.reg false f9r3) .ret)))), [.tmp 0]⟩
/-! 10: stolon/stolonref09.Few -/
def f10r0 : List I := [⟨(some 1), none, [], false, .box (.t 0)⟩,
  ⟨(some 2), none, [], false, .mv (.c (.bool false))⟩]
def f10r1 : List I := [⟨(some 5), none, [], false, .fad 3 (.t 1)⟩,
  ⟨(some 6), none, [], false, .ld false 1 (.t 5)⟩,
  ⟨(some 7), none, [], false, .len (.t 6)⟩,
  ⟨(some 3), none, [], false, .mv (.t 7)⟩]
def f10r2 : List I := [⟨(some 4), none, [], false, .mv (.c (.int .i64 0))⟩]
def f10r3 : List I := [⟨(some 8), none, [], false, .mv (.t 4)⟩,
  ⟨(some 9), none, [], false, .fad 3 (.t 1)⟩,
  ⟨(some 10), none, [], false, .ld false 1 (.t 9)⟩,
  ⟨(some 11), none, [], false, .len (.t 10)⟩,
  ⟨(some 12), none, [], false, .bin .lss .other (.t 8) (.t 11)⟩,
  ⟨(some 13), none, [], false, .mv (.t 12)⟩,
  ⟨(some 14), (some (13, true)), [], false, .mv (.t 3)⟩,
  ⟨(some 15), (some (13, true)), [], false, .bin .leq .other (.t 14) (.c (.int .i64 2000))⟩,
  ⟨(some 16), none, [], false, .pick (.t 13) (.t 15) (.c (.bool false))⟩]
def f10r4 : List I := [⟨(some 19), none, [], false, .mv (.t 3)⟩,
  ⟨(some 20), none, [], false, .fad 3 (.t 1)⟩,
  ⟨(some 21), none, [], false, .ld false 1 (.t 20)⟩,
  ⟨(some 22), none, [], false, .mv (.t 4)⟩,
  ⟨(some 23), none, [], false, .iad 7 none (.t 21) (.t 22)⟩,
  ⟨(some 24), none, [], false, .fad 3 (.t 23)⟩,
  ⟨(some 25), none, [], false, .fad 3 (.t 24)⟩,
  ⟨(some 26), none, [], false, .ld false 1 (.t 25)⟩,
  ⟨(some 27), none, [], false, .len (.t 26)⟩,
  ⟨(some 28), none, [], false, .bin .add .other (.t 19) (.t 27)⟩,
  ⟨(some 3), none, [], false, .mv (.t 28)⟩]
def f10r5 : List I := [⟨(some 17), none, [], false, .mv (.t 4)⟩,
  ⟨(some 18), none, [], false, .bin .add .other (.t 17) (.c (.int .i64 1))⟩,
  ⟨(some 4), none, [], false, .mv (.t 18)⟩]
def f10l0 : C := (.seq (.seq (.reg false f10r3) (.cond (.t 16) .skip (.exit 0))) (.seq (.block 1 (.reg false f10r4)) (.reg false f10r5)))
def f10r6 : List I := [⟨(some 29), none, [], false, .mv (.t 3)⟩,
  ⟨(some 30), none, [], false, .bin .leq .other (.t 29) (.c (.int .i64 2000))⟩,
  ⟨(some 2), none, [], false, .mv (.t 30)⟩]
def f10 : Fn := ⟨[0, 1, 2, 3, 4, 16], (.seq (.reg false f10r0) (.seq (.reg false f10r1) (.seq (.seq (.reg false f10r2) (.block 0 (.loop f10l0))) (.seq (.reg false f10r6) .ret)))), [.tmp 2]⟩
/-! 11: stolon/stolonref09.Right -/
def f11r0 : List I := [⟨(some 1), none, [], false, .box (.t 0)⟩,
  ⟨(some 2), none, [], false, .mv (.c (.bool false))⟩]
def f11r1 : List I := [⟨(some 8), none, [], false, .fad 0 (.t 1)⟩,
  ⟨(some 9), none, [], false, .ld true 2 (.t 8)⟩,
  ⟨(some 10), none, [], false, .call 24 [(.t 9)]⟩,
  ⟨(some 3), none, [], false, .mv (.t 10)⟩]
def f11r2 : List I := [⟨(some 11), none, [], false, .mv (.t 3)⟩,
  ⟨(some 12), none, [], false, .un .not (.t 11)⟩,
  ⟨(some 13), none, [], false, .mv (.t 12)⟩,
  ⟨(some 14), (some (13, false)), [], false, .fad 2 (.t 1)⟩,
  ⟨(some 15), (some (13, false)), [], false, .ld false 1 (.t 14)⟩,
  ⟨(some 16), (some (13, false)), [], false, .bin .lss .other (.t 15) (.c (.int .i64 0))⟩,
  ⟨(some 17), none, [], false, .pick (.t 13) (.c (.bool true)) (.t 16)⟩,
  ⟨(some 18), none, [], false, .mv (.t 17)⟩,
  ⟨(some 19), (some (18, false)), [], false, .fad 2 (.t 1)⟩,
  ⟨(some 20), (some (18, false)), [], false, .ld false 1 (.t 19)⟩,
  ⟨(some 21), (some (18, false)), [], false, .bin .gtr .other (.t 20) (.c (.int .i64 256))⟩,
  ⟨(some 22), none, [], false, .pick (.t 18) (.c (.bool true)) (.t 21)⟩,
  ⟨(some 23), none, [], false, .mv (.t 22)⟩,
  ⟨(some 24), (some (23, false)), [], false, .fad 3 (.t 1)⟩,
  ⟨(some 25), (some (23, false)), [], false, .ld false 1 (.t 24)⟩,
  ⟨(some 26), (some (23, false)), [], false, .len (.t 25)⟩,
  ⟨(some 27), (some (23, false)), [], false, .fad 2 (.t 1)⟩,
  ⟨(some 28), (some (23, false)), [], false, .ld false 1 (.t 27)⟩,
  ⟨(some 29), (some (23, false)), [], false, .bin .gtr .other (.t 26) (.t 28)⟩,
  ⟨(some 30), none, [], false, .pick (.t 23) (.c (.bool true)) (.t 29)⟩]
def f11r3 : List I := [⟨(some 2), none, [], false, .mv (.c (.bool false))⟩]
def f11r4 : List I := [⟨(some 4), none, [], false, .mv (.c (.int .i64 0))⟩]
def f11r5 : List I := [⟨(some 31), none, [], false, .mv (.t 4)⟩,
  ⟨(some 32), none, [], false, .fad 3 (.t 1)⟩,
  ⟨(some 33), none, [], false, .ld false 1 (.t 32)⟩,
  ⟨(some 34), none, [], false, .len (.t 33)⟩,
  ⟨(some 35), none, [], false, .bin .lss .other (.t 31) (.t 34)⟩]
def f11r6 : List I := [⟨(some 38), none, [], false, .fad 3 (.t 1)⟩,
  ⟨(some 39), none, [], false, .ld false 1 (.t 38)⟩,
  ⟨(some 40), none, [], false, .mv (.t 4)⟩,
  ⟨(some 41), none, [], false, .iad 7 none (.t 39) (.t 40)⟩,
  ⟨(some 42), none, [], false, .ld true 7 (.t 41)⟩,
  ⟨(some 5), none, [], false, .alloc [.int .i64 0, .int .i64 0, .int .i64 0, .int .u32 0, .bool false, .int .i64 0, nilS]⟩,
  ⟨none, none, [], false, .st 7 (.t 5) (.t 42)⟩]
def f11r7 : List I := [⟨(some 43), none, [], false, .fad 3 (.t 5)⟩,
  ⟨(some 44), none, [], false, .ld true 4 (.t 43)⟩,
  ⟨(some 45), none, [], false, .call 19 [(.t 44)]⟩,
  ⟨(some 6), none, [], false, .mv (.t 45)⟩]
def f11r8 : List I := [⟨(some 46), none, [], false, .mv (.t 6)⟩,
  ⟨(some 47), none, [], false, .un .not (.t 46)⟩,
  ⟨(some 48), none, [], false, .mv (.t 47)⟩,
  ⟨(some 49), (some (48, false)), [], false, .fad 3 (.t 5)⟩,
  ⟨(some 50), (some (48, false)), [], false, .ld true 4 (.t 49)⟩,
  ⟨(some 51), (some (48, false)), [], false, .call 25 [(.t 50)]⟩,
  ⟨(some 52), (some (48, false)), [], false, .un .not (.t 51)⟩,
  ⟨(some 53), none, [], false, .pick (.t 48) (.c (.bool true)) (.t 52)⟩,
  ⟨(some 54), none, [], false, .mv (.t 53)⟩,
  ⟨(some 55), (some (54, false)), [], false, .fad 0 (.t 5)⟩,
  ⟨(some 56), (some (54, false)), [], false, .ld false 1 (.t 55)⟩,
  ⟨(some 57), (some (54, false)), [], false, .bin .lss .other (.t 56) (.c (.int .i64 0))⟩,
  ⟨(some 58), none, [], false, .pick (.t 54) (.c (.bool true)) (.t 57)⟩,
  ⟨(some 59), none, [], false, .mv (.t 58)⟩,
  ⟨(some 60), (some (59, false)), [], false, .fad 0 (.t 5)⟩,
  ⟨(some 61), (some (59, false)), [], false, .ld false 1 (.t 60)⟩,
  ⟨(some 62), (some (59, false)), [], false, .bin .gtr .other (.t 61) (.c (.int .i64 63))⟩,
  ⟨(some 63), none, [], false, .pick (.t 59) (.c (.bool true)) (.t 62)⟩,
  ⟨(some 64), none, [], false, .mv (.t 63)⟩,
  ⟨(some 65), (some (64, false)), [], false, .fad 1 (.t 5)⟩,
  ⟨(some 66), (some (64, false)), [], false, .ld false 1 (.t 65)⟩,
  ⟨(some 67), (some (64, false)), [], false, .bin .lss .other (.t 66) (.c (.int .i64 0))⟩,
  ⟨(some 68), none, [], false, .pick (.t 64) (.c (.bool true)) (.t 67)⟩,
  ⟨(some 69), none, [], false, .mv (.t 68)⟩,
  ⟨(some 70), (some (69, false)), [], false, .fad 1 (.t 5)⟩,
  ⟨(some 71), (some (69, false)), [], false, .ld false 1 (.t 70)⟩,
  ⟨(some 72), (some (69, false)), [], false, .bin .gtr .other (.t 71) (.c (.int .i64 1000000))⟩,
  ⟨(some 73), none, [], false, .pick (.t 69) (.c (.bool true)) (.t 72)⟩,
  ⟨(some 74), none, [], false, .mv (.t 73)⟩,
  ⟨(some 75), (some (74, false)), [], false, .fad 2 (.t 5)⟩,
  ⟨(some 76), (some (74, false)), [], false, .ld false 1 (.t 75)⟩,
  ⟨(some 77), (some (74, false)), [], false, .bin .lss .other (.t 76) (.c (.int .i64 0))⟩,
  ⟨(some 78), none, [], false, .pick (.t 74) (.c (.bool true)) (.t 77)⟩,
  ⟨(some 79), none, [], false, .mv (.t 78)⟩,
  ⟨(some 80), (some (79, false)), [], false, .fad 2 (.t 5)⟩,
  ⟨(some 81), (some (79, false)), [], false, .ld false 1 (.t 80)⟩,
  ⟨(some 82), (some (79, false)), [], false, .bin .gtr .other (.t 81) (.c (.int .i64 1000000))⟩,
  ⟨(some 83), none, [], false, .pick (.t 79) (.c (.bool true)) (.t 82)⟩]
def f11r9 : List I := [⟨(some 2), none, [], false, .mv (.c (.bool false))⟩]
def f11r10 : List I := [⟨(some 84), none, [], false, .mv (.t 4)⟩,
  ⟨(some 85), none, [], false, .bin .gtr .other (.t 84) (.c (.int .i64 0))⟩]
def f11r11 : List I := [⟨(some 86), none, [], false, .fad 3 (.t 1)⟩,
  ⟨(some 87), none, [], false, .ld false 1 (.t 86)⟩,
  ⟨(some 88), none, [], false, .mv (.t 4)⟩,
  ⟨(some 89), none, [], false, .bin .sub .other (.t 88) (.c (.int .i64 1))⟩,
  ⟨(some 90), none, [], false, .iad 7 none (.t 87) (.t 89)⟩,
  ⟨(some 91), none, [], false, .ld true 7 (.t 90)⟩,
  ⟨(some 7), none, [], false, .alloc [.int .i64 0, .int .i64 0, .int .i64 0, .int .u32 0, .bool false, .int .i64 0, nilS]⟩,
  ⟨none, none, [], false, .st 7 (.t 7) (.t 91)⟩]
def f11r12 : List I := [⟨(some 92), none, [], false, .fad 0 (.t 7)⟩,
  ⟨(some 93), none, [], false, .ld false 1 (.t 92)⟩,
  ⟨(some 94), none, [], false, .fad 0 (.t 5)⟩,
  ⟨(some 95), none, [], false, .ld false 1 (.t 94)⟩,
  ⟨(some 96), none, [], false, .bin .gtr .other (.t 93) (.t 95)⟩,
  ⟨(some 97), none, [], false, .mv (.t 96)⟩,
  ⟨(some 98), (some (97, false)), [], false, .fad 0 (.t 7)⟩,
  ⟨(some 99), (some (97, false)), [], false, .ld false 1 (.t 98)⟩,
  ⟨(some 100), (some (97, false)), [], false, .fad 0 (.t 5)⟩,
  ⟨(some 101), (some (97, false)), [], false, .ld false 1 (.t 100)⟩,
  ⟨(some 102), (some (97, false)), [], false, .bin .eql .other (.t 99) (.t 101)⟩,
  ⟨(some 103), (some (97, false)), [], false, .mv (.t 102)⟩,
  ⟨(some 104), (some (103, true)), [], false, .fad 3 (.t 7)⟩,
  ⟨(some 105), (some (103, true)), [], false, .fad 0 (.t 104)⟩,
  ⟨(some 106), (some (103, true)), [], false, .ld false 1 (.t 105)⟩,
  ⟨(some 107), (some (103, true)), [], false, .fad 3 (.t 5)⟩,
  ⟨(some 108), (some (103, true)), [], false, .fad 0 (.t 107)⟩,
  ⟨(some 109), (some (103, true)), [], false, .ld false 1 (.t 108)⟩,
  ⟨(some 110), (some (103, true)), [], false, .bin .geq .other (.t 106) (.t 109)⟩,
  ⟨(some 111), (some (97, false)), [], false, .pick (.t 103) (.t 110) (.c (.bool false))⟩,
  ⟨(some 112), none, [], false, .pick (.t 97) (.c (.bool true)) (.t 111)⟩]
def f11r13 : List I := [⟨(some 2), none, [], false, .mv (.c (.bool false))⟩]
def f11r14 : List I := [⟨(some 36), none, [], false, .mv (.t 4)⟩,
  ⟨(some 37), none, [], false, .bin .add .other (.t 36) (.c (.int .i64 1))⟩,
  ⟨(some 4), none, [], false, .mv (.t 37)⟩]
def f11l0 : C := (.seq (.seq (.reg false f11r5) (.cond (.t 35) .skip (.exit 0))) (.seq (.block 1 (.seq (.reg false f11r6) (.seq (.reg false f11r7) (.seq (.seq (.reg false f11r8) (.cond (.t 83) (.seq (.reg false f11r9) .ret) .skip)) (.seq (.reg false f11r10) (.cond (.t 85) (.seq (.reg false f11r11) (.seq (.reg false f11r12) (.cond (.t 112) (.seq (.reg false f11r13) .ret) .skip))) .skip)))))) (.reg false f11r14)))
def f11r15 : List I := [⟨(some 2), none, [], false, .mv (.c (.bool true))⟩]
def f11 : Fn := ⟨[0, 1, 2, 3, 4, 5, 6, 7, 30, 35, 83, 85, 112], (.seq (.reg false f11r0) (.seq (.reg false f11r1) (.seq (.seq (.reg false f11r2) (.cond (.t 30) (.seq (.reg false f11r3) .ret) .skip)) (.seq (.seq (.reg false f11r4) (.block 0 (.loop f11l0))) (.seq (.reg false f11r15) .ret))))), [.tmp 2]⟩
/-! 12: stolon/stolonref05.Few -/
def f12r0 : List I := [⟨(some 1), none, [], false, .box (.t 0)⟩,
  ⟨(some 2), none, [], false, .mv (.c (.bool false))⟩]
def f12r1 : List I := [⟨(some 5), none, [], false, .fad 7 (.t 1)⟩,
  ⟨(some 6), none, [], false, .ld false 1 (.t 5)⟩,
  ⟨(some 7), none, [], false, .len (.t 6)⟩,
  ⟨(some 8), none, [], false, .fad 8 (.t 1)⟩,
  ⟨(some 9), none, [], false, .ld false 1 (.t 8)⟩,
  ⟨(some 10), none, [], false, .len (.t 9)⟩,
  ⟨(some 11), none, [], false, .bin .add .other (.t 7) (.t 10)⟩,
  ⟨(some 3), none, [], false, .mv (.t 11)⟩]
def f12r2 : List I := [⟨(some 4), none, [], false, .mv (.c (.int .i64 0))⟩]
def f12r3 : List I := [⟨(some 12), none, [], false, .mv (.t 4)⟩,
  ⟨(some 13), none, [], false, .fad 8 (.t 1)⟩,
  ⟨(some 14), none, [], false, .ld false 1 (.t 13)⟩,
  ⟨(some 15), none, [], false, .len (.t 14)⟩,
  ⟨(some 16), none, [], false, .bin .lss .other (.t 12) (.t 15)⟩,
  ⟨(some 17), none, [], false, .mv (.t 16)⟩,
  ⟨(some 18), (some (17, true)), [], false, .mv (.t 3)⟩,
  ⟨(some 19), (some (17, true)), [], false, .bin .leq .other (.t 18) (.c (.int .i64 3000))⟩,
  ⟨(some 20), none, [], false, .pick (.t 17) (.t 19) (.c (.bool false))⟩]
def f12r4 : List I := [⟨(some 23), none, [], false, .mv (.t 3)⟩,
  ⟨(some 24), none, [], false, .fad 8 (.t 1)⟩,
  ⟨(some 25), none, [], false, .ld false 1 (.t 24)⟩,
  ⟨(some 26), none, [], false, .mv (.t 4)⟩,
  ⟨(some 27), none, [], false, .iad 3 none (.t 25) (.t 26)⟩,
  ⟨(some 28), none, [], false, .fad 2 (.t 27)⟩,
  ⟨(some 29), none, [], false, .ld false 1 (.t 28)⟩,
  ⟨(some 30), none, [], false, .len (.t 29)⟩,
  ⟨(some 31), none, [], false, .bin .add .other (.t 23) (.t 30)⟩,
  ⟨(some 3), none, [], false, .mv (.t 31)⟩]
def f12r5 : List I := [⟨(some 21), none, [], false, .mv (.t 4)⟩,
  ⟨(some 22), none, [], false, .bin .add .other (.t 21) (.c (.int .i64 1))⟩,
  ⟨(some 4), none, [], false, .mv (.t 22)⟩]
def f12l0 : C := (.seq (.seq (.reg false f12r3) (.cond (.t 20) .skip (.exit 0))) (.seq (.block 1 (.reg false f12r4)) (.reg false f12r5)))
def f12r6 : List I := [⟨(some 32), none, [], false, .mv (.t 3)⟩,
  ⟨(some 33), none, [], false, .bin .leq .other (.t 32) (.c (.int .i64 3000))⟩,
  ⟨(some 2), none, [], false, .mv (.t 33)⟩]
def f12 : Fn := ⟨[0, 1, 2, 3, 4, 20], (.seq (.reg false f12r0) (.seq (.reg false f12r1) (.seq (.seq (.reg false f12r2) (.block 0 (.loop f12l0))) (.seq (.reg false f12r6) .ret)))), [.tmp 2]⟩
/-! 13: stolon/stolonref05.Right -/
def f13r0 : List I := [⟨(some 1), none, [], false, .box (.t 0)⟩,
  ⟨(some 2), none, [], false, .mv (.c (.bool false))⟩]
def f13r1 : List I := [⟨(some 8), none, [], false, .fad 4 (.t 1)⟩,
  ⟨(some 9), none, [], false, .ld false 1 (.t 8)⟩,
  ⟨(some 10), none, [], false, .un .not (.t 9)⟩,
  ⟨(some 11), none, [], false, .mv (.t 10)⟩,
  ⟨(some 12), (some (11, true)), [], false, .fad 5 (.t 1)⟩,
  ⟨(some 13), (some (11, true)), [], false, .ld false 1 (.t 12)⟩,
  ⟨(some 14), (some (11, true)), [], false, .bin .eql .other (.t 13) (.c (.int .u8 0))⟩,
  ⟨(some 15), none, [], false, .pick (.t 11) (.t 14) (.c (.bool false))⟩,
  ⟨(some 16), none, [], false, .mv (.t 15)⟩,
  ⟨(some 17), (some (16, true)), [], false, .fad 6 (.t 1)⟩,
  ⟨(some 18), (some (16, true)), [], false, .ld false 1 (.t 17)⟩,
  ⟨(some 19), (some (16, true)), [], false, .bin .eql .other (.t 18) (.c (.int .u8 0))⟩,
  ⟨(some 20), none, [], false, .pick (.t 16) (.t 19) (.c (.bool false))⟩,
  ⟨(some 21), none, [], false, .mv (.t 20)⟩,
  ⟨(some 22), (some (21, true)), [], false, .fad 7 (.t 1)⟩,
  ⟨(some 23), (some (21, true)), [], false, .ld false 1 (.t 22)⟩,
  ⟨(some 24), (some (21, true)), [], false, .len (.t 23)⟩,
  ⟨(some 25), (some (21, true)), [], false, .bin .eql .other (.t 24) (.c (.int .i64 0))⟩,
  ⟨(some 26), none, [], false, .pick (.t 21) (.t 25) (.c (.bool false))⟩,
  ⟨(some 3), none, [], false, .mv (.t 26)⟩]
def f13r2 : List I := [⟨(some 27), none, [], false, .fad 3 (.t 1)⟩,
  ⟨(some 28), none, [], false, .ld false 1 (.t 27)⟩,
  ⟨(some 29), none, [], false, .call 26 [(.t 28)]⟩,
  ⟨(some 4), none, [], false, .mv (.t 29)⟩]
def f13r3 : List I := [⟨(some 30), none, [], false, .fad 0 (.t 1)⟩,
  ⟨(some 31), none, [], false, .ld false 1 (.t 30)⟩,
  ⟨(some 32), none, [], false, .bin .eql .other (.t 31) (.c (.int .u8 34))⟩]
def f13r4 : List I := [⟨(some 33), none, [], false, .mv (.t 3)⟩,
  ⟨(some 34), none, [], false, .un .not (.t 33)⟩,
  ⟨(some 35), none, [], false, .mv (.t 34)⟩,
  ⟨(some 36), (some (35, false)), [], false, .fad 1 (.t 1)⟩,
  ⟨(some 37), (some (35, false)), [], false, .ld false 1 (.t 36)⟩,
  ⟨(some 38), (some (35, false)), [], false, .bin .neq .other (.t 37) (.c (.int .i64 0))⟩,
  ⟨(some 39), none, [], false, .pick (.t 35) (.c (.bool true)) (.t 38)⟩,
  ⟨(some 40), none, [], false, .mv (.t 39)⟩,
  ⟨(some 41), (some (40, false)), [], false, .fad 2 (.t 1)⟩,
  ⟨(some 42), (some (40, false)), [], false, .ld false 1 (.t 41)⟩,
  ⟨(some 43), (some (40, false)), [], false, .bin .neq .other (.t 42) (.c (.int .u8 0))⟩,
  ⟨(some 44), none, [], false, .pick (.t 40) (.c (.bool true)) (.t 43)⟩,
  ⟨(some 45), none, [], false, .mv (.t 44)⟩,
  ⟨(some 46), (some (45, false)), [], false, .fad 3 (.t 1)⟩,
  ⟨(some 47), (some (45, false)), [], false, .ld false 1 (.t 46)⟩,
  ⟨(some 48), (some (45, false)), [], false, .bin .neq .other (.t 47) (.c (.int .u32 0))⟩,
  ⟨(some 49), none, [], false, .pick (.t 45) (.c (.bool true)) (.t 48)⟩,
  ⟨(some 50), none, [], false, .mv (.t 49)⟩,
  ⟨(some 51), (some (50, false)), [], false, .fad 8 (.t 1)⟩,
  ⟨(some 52), (some (50, false)), [], false, .ld false 1 (.t 51)⟩,
  ⟨(some 53), (some (50, false)), [], false, .len (.t 52)⟩,
  ⟨(some 54), (some (50, false)), [], false, .bin .gtr .other (.t 53) (.c (.int .i64 32))⟩,
  ⟨(some 55), none, [], false, .pick (.t 50) (.c (.bool true)) (.t 54)⟩]
def f13r5 : List I := [⟨(some 2), none, [], false, .mv (.c (.bool false))⟩]
def f13r6 : List I := [⟨(some 5), none, [], false, .mv (.c (.int .i64 0))⟩]
def f13r7 : List I := [⟨(some 56), none, [], false, .mv (.t 5)⟩,
  ⟨(some 57), none, [], false, .fad 8 (.t 1)⟩,
  ⟨(some 58), none, [], false, .ld false 1 (.t 57)⟩,
  ⟨(some 59), none, [], false, .len (.t 58)⟩,
  ⟨(some 60), none, [], false, .bin .lss .other (.t 56) (.t 59)⟩]
def f13r8 : List I := [⟨(some 63), none, [], false, .fad 8 (.t 1)⟩,
  ⟨(some 64), none, [], false, .ld false 1 (.t 63)⟩,
  ⟨(some 65), none, [], false, .mv (.t 5)⟩,
  ⟨(some 66), none, [], false, .iad 3 none (.t 64) (.t 65)⟩,
  ⟨(some 67), none, [], false, .ld true 3 (.t 66)⟩,
  ⟨(some 6), none, [], false, .alloc [.int .u8 0, .int .u32 0, nilS]⟩,
  ⟨none, none, [], false, .st 3 (.t 6) (.t 67)⟩]
def f13r9 : List I := [⟨(some 68), none, [], false, .fad 1 (.t 6)⟩,
  ⟨(some 69), none, [], false, .ld false 1 (.t 68)⟩,
  ⟨(some 70), none, [], false, .call 26 [(.t 69)]⟩,
  ⟨(some 7), none, [], false, .mv (.t 70)⟩]
def f13r10 : List I := [⟨(some 71), none, [], false, .fad 0 (.t 6)⟩,
  ⟨(some 72), none, [], false, .ld false 1 (.t 71)⟩,
  ⟨(some 73), none, [], false, .bin .lss .other (.t 72) (.c (.int .u8 1))⟩,
  ⟨(some 74), none, [], false, .mv (.t 73)⟩,
  ⟨(some 75), (some (74, false)), [], false, .fad 0 (.t 6)⟩,
  ⟨(some 76), (some (74, false)), [], false, .ld false 1 (.t 75)⟩,
  ⟨(some 77), (some (74, false)), [], false, .bin .gtr .other (.t 76) (.c (.int .u8 6))⟩,
  ⟨(some 78), none, [], false, .pick (.t 74) (.c (.bool true)) (.t 77)⟩,
  ⟨(some 79), none, [], false, .mv (.t 78)⟩,
  ⟨(some 80), (some (79, false)), [], false, .mv (.t 7)⟩,
  ⟨(some 81), (some (79, false)), [], false, .un .not (.t 80)⟩,
  ⟨(some 82), none, [], false, .pick (.t 79) (.c (.bool true)) (.t 81)⟩,
  ⟨(some 83), none, [], false, .mv (.t 82)⟩,
  ⟨(some 84), (some (83, false)), [], false, .fad 2 (.t 6)⟩,
  ⟨(some 85), (some (83, false)), [], false, .ld false 1 (.t 84)⟩,
  ⟨(some 86), (some (83, false)), [], false, .len (.t 85)⟩,
  ⟨(some 87), (some (83, false)), [], false, .bin .gtr .other (.t 86) (.c (.int .i64 64))⟩,
  ⟨(some 88), none, [], false, .pick (.t 83) (.c (.bool true)) (.t 87)⟩]
def f13r11 : List I := [⟨(some 2), none, [], false, .mv (.c (.bool false))⟩]
def f13r12 : List I := [⟨(some 61), none, [], false, .mv (.t 5)⟩,
  ⟨(some 62), none, [], false, .bin .add .other (.t 61) (.c (.int .i64 1))⟩,
  ⟨(some 5), none, [], false, .mv (.t 62)⟩]
def f13l0 : C := (.seq (.seq (.reg false f13r7) (.cond (.t 60) .skip (.exit 0))) (.seq (.block 1 (.seq (.reg false f13r8) (.seq (.reg false f13r9) (.seq (.reg false f13r10) (.cond (.t 88) (.seq (.reg false f13r11) .ret) .skip))))) (.reg false f13r12)))
def f13r13 : List I := [⟨(some 2), none, [], false, .mv (.c (.bool true))⟩]
def f13r14 : List I := [⟨(some 89), none, [], false, .fad 8 (.t 1)⟩,
  ⟨(some 90), none, [], false, .ld false 1 (.t 89)⟩,
  ⟨(some 91), none, [], false, .len (.t 90)⟩,
  ⟨(some 92), none, [], false, .bin .gtr .other (.t 91) (.c (.int .i64 0))⟩]
def f13r15 : List I := [⟨(some 2), none, [], false, .mv (.c (.bool false))⟩]
def f13r16 : List I := [⟨(some 93), none, [], false, .fad 0 (.t 1)⟩,
  ⟨(some 94), none, [], false, .ld false 1 (.t 93)⟩,
  ⟨(some 95), none, [], false, .bin .eql .other (.t 94) (.c (.int .u8 18))⟩,
  ⟨(some 96), none, [], false, .mv (.t 95)⟩,
  ⟨(some 97), (some (96, false)), [], false, .fad 0 (.t 1)⟩,
  ⟨(some 98), (some (96, false)), [], false, .ld false 1 (.t 97)⟩,
  ⟨(some 99), (some (96, false)), [], false, .bin .eql .other (.t 98) (.c (.int .u8 22))⟩,
  ⟨(some 100), none, [], false, .pick (.t 96) (.c (.bool true)) (.t 99)⟩,
  ⟨(some 101), none, [], false, .mv (.t 100)⟩,
  ⟨(some 102), (some (101, false)), [], false, .fad 0 (.t 1)⟩,
  ⟨(some 103), (some (101, false)), [], false, .ld false 1 (.t 102)⟩,
  ⟨(some 104), (some (101, false)), [], false, .bin .eql .other (.t 103) (.c (.int .u8 23))⟩,
  ⟨(some 105), none, [], false, .pick (.t 101) (.c (.bool true)) (.t 104)⟩]
def f13r17 : List I := [⟨(some 106), none, [], false, .mv (.t 3)⟩,
  ⟨(some 107), none, [], false, .mv (.t 106)⟩,
  ⟨(some 108), (some (107, true)), [], false, .fad 1 (.t 1)⟩,
  ⟨(some 109), (some (107, true)), [], false, .ld false 1 (.t 108)⟩,
  ⟨(some 110), (some (107, true)), [], false, .bin .eql .other (.t 109) (.c (.int .i64 0))⟩,
  ⟨(some 111), none, [], false, .pick (.t 107) (.t 110) (.c (.bool false))⟩,
  ⟨(some 112), none, [], false, .mv (.t 111)⟩,
  ⟨(some 113), (some (112, true)), [], false, .fad 2 (.t 1)⟩,
  ⟨(some 114), (some (112, true)), [], false, .ld false 1 (.t 113)⟩,
  ⟨(some 115), (some (112, true)), [], false, .bin .eql .other (.t 114) (.c (.int .u8 0))⟩,
  ⟨(some 116), none, [], false, .pick (.t 112) (.t 115) (.c (.bool false))⟩,
  ⟨(some 117), none, [], false, .mv (.t 116)⟩,
  ⟨(some 118), (some (117, true)), [], false, .mv (.t 4)⟩,
  ⟨(some 119), none, [], false, .pick (.t 117) (.t 118) (.c (.bool false))⟩,
  ⟨(some 2), none, [], false, .mv (.t 119)⟩]
def f13r18 : List I := [⟨(some 120), none, [], false, .fad 0 (.t 1)⟩,
  ⟨(some 121), none, [], false, .ld false 1 (.t 120)⟩,
  ⟨(some 122), none, [], false, .bin .neq .other (.t 121) (.c (.int .u8 17))⟩]
def f13r19 : List I := [⟨(some 2), none, [], false, .mv (.c (.bool false))⟩]
def f13r20 : List I := [⟨(some 123), none, [], false, .fad 1 (.t 1)⟩,
  ⟨(some 124), none, [], false, .ld false 1 (.t 123)⟩]
def f13r21 : List I := [⟨(some 126), none, [], false, .bin .eql .other (.t 124) (.c (.int .i64 1))⟩,
  ⟨(some 125), none, [], false, .mv (.t 126)⟩]
def f13r22 : List I := [⟨(some 127), none, [], false, .mv (.t 3)⟩,
  ⟨(some 128), none, [], false, .mv (.t 127)⟩,
  ⟨(some 129), (some (128, true)), [], false, .fad 2 (.t 1)⟩,
  ⟨(some 130), (some (128, true)), [], false, .ld false 1 (.t 129)⟩,
  ⟨(some 131), (some (128, true)), [], false, .bin .eql .other (.t 130) (.c (.int .u8 0))⟩,
  ⟨(some 132), none, [], false, .pick (.t 128) (.t 131) (.c (.bool false))⟩,
  ⟨(some 133), none, [], false, .mv (.t 132)⟩,
  ⟨(some 134), (some (133, true)), [], false, .fad 3 (.t 1)⟩,
  ⟨(some 135), (some (133, true)), [], false, .ld false 1 (.t 134)⟩,
  ⟨(some 136), (some (133, true)), [], false, .bin .eql .other (.t 135) (.c (.int .u32 0))⟩,
  ⟨(some 137), none, [], false, .pick (.t 133) (.t 136) (.c (.bool false))⟩,
  ⟨(some 2), none, [], false, .mv (.t 137)⟩]
def f13r23 : List I := [⟨(some 139), none, [], false, .bin .eql .other (.t 124) (.c (.int .i64 2))⟩,
  ⟨(some 138), none, [], false, .mv (.t 139)⟩]
def f13r24 : List I := [⟨(some 140), none, [], false, .mv (.t 3)⟩,
  ⟨(some 141), none, [], false, .mv (.t 140)⟩,
  ⟨(some 142), (some (141, true)), [], false, .fad 2 (.t 1)⟩,
  ⟨(some 143), (some (141, true)), [], false, .ld false 1 (.t 142)⟩,
  ⟨(some 144), (some (141, true)), [], false, .bin .gtr .other (.t 143) (.c (.int .u8 0))⟩,
  ⟨(some 145), none, [], false, .pick (.t 141) (.t 144) (.c (.bool false))⟩,
  ⟨(some 146), none, [], false, .mv (.t 145)⟩,
  ⟨(some 147), (some (146, true)), [], false, .fad 3 (.t 1)⟩,
  ⟨(some 148), (some (146, true)), [], false, .ld false 1 (.t 147)⟩,
  ⟨(some 149), (some (146, true)), [], false, .bin .eql .other (.t 148) (.c (.int .u32 0))⟩,
  ⟨(some 150), (some (146, true)), [], false, .mv (.t 149)⟩,
  ⟨(some 151), (some (150, false)), [], false, .mv (.t 4)⟩,
  ⟨(some 152), (some (146, true)), [], false, .pick (.t 150) (.c (.bool true)) (.t 151)⟩,
  ⟨(some 153), none, [], false, .pick (.t 146) (.t 152) (.c (.bool false))⟩,
  ⟨(some 2), none, [], false, .mv (.t 153)⟩]
def f13r25 : List I := [⟨(some 155), none, [], false, .bin .eql .other (.t 124) (.c (.int .i64 3))⟩,
  ⟨(some 154), none, [], false, .mv (.t 155)⟩]
def f13r26 : List I := [⟨(some 156), none, [], false, .fad 5 (.t 1)⟩,
  ⟨(some 157), none, [], false, .ld false 1 (.t 156)⟩,
  ⟨(some 158), none, [], false, .bin .lss .other (.t 157) (.c (.int .u8 8))⟩,
  ⟨(some 159), none, [], false, .mv (.t 158)⟩,
  ⟨(some 160), (some (159, true)), [], false, .fad 7 (.t 1)⟩,
  ⟨(some 161), (some (159, true)), [], false, .ld false 1 (.t 160)⟩,
  ⟨(some 162), (some (159, true)), [], false, .len (.t 161)⟩,
  ⟨(some 163), (some (159, true)), [], false, .bin .leq .other (.t 162) (.c (.int .i64 64))⟩,
  ⟨(some 164), none, [], false, .pick (.t 159) (.t 163) (.c (.bool false))⟩,
  ⟨(some 165), none, [], false, .mv (.t 164)⟩,
  ⟨(some 166), (some (165, true)), [], false, .mv (.t 4)⟩,
  ⟨(some 167), (some (165, true)), [], false, .mv (.t 166)⟩,
  ⟨(some 168), (some (167, false)), [], false, .fad 3 (.t 1)⟩,
  ⟨(some 169), (some (167, false)), [], false, .ld false 1 (.t 168)⟩,
  ⟨(some 170), (some (167, false)), [], false, .bin .eql .other (.t 169) (.c (.int .u32 0))⟩,
  ⟨(some 171), (some (167, false)), [], false, .mv (.t 170)⟩,
  ⟨(some 172), (some (171, true)), [], false, .fad 7 (.t 1)⟩,
  ⟨(some 173), (some (171, true)), [], false, .ld false 1 (.t 172)⟩,
  ⟨(some 174), (some (171, true)), [], false, .len (.t 173)⟩,
  ⟨(some 175), (some (171, true)), [], false, .bin .eql .other (.t 174) (.c (.int .i64 0))⟩,
  ⟨(some 176), (some (167, false)), [], false, .pick (.t 171) (.t 175) (.c (.bool false))⟩,
  ⟨(some 177), (some (165, true)), [], false, .pick (.t 167) (.c (.bool true)) (.t 176)⟩,
  ⟨(some 178), none, [], false, .pick (.t 165) (.t 177) (.c (.bool false))⟩,
  ⟨(some 2), none, [], false, .mv (.t 178)⟩]
def f13r27 : List I := [⟨(some 2), none, [], false, .mv (.c (.bool false))⟩]
def f13 : Fn := ⟨[0, 1, 2, 3, 4, 5, 6, 7, 32, 55, 60, 88, 92, 105, 122, 124, 125, 138, 154], (.seq (.reg false f13r0) (.seq (.reg false f13r1) (.seq (.reg false f13r2) (.seq (.seq (.reg false f13r3) (.cond (.t 32) (.seq (.seq (.reg false f13r4) (.cond (.t 55) (.seq (.reg false f13r5) .ret) .skip)) (.seq (.seq (.reg false f13r6) (.block 0 (.loop f13l0))) (.seq (.reg false f13r13) .ret))) .skip)) (.seq (.seq (.reg false f13r14) (.cond (.t 92) (.seq (.reg false f13r15) .ret) .skip)) (.seq (.seq (.reg false f13r16) (.cond (.t 105) (.seq (.reg false f13r17) .ret) .skip)) (.seq (.seq (.reg false f13r18) (.cond (.t 122) (.seq (.reg false f13r19) .ret) .skip)) (.seq (.seq (.reg false f13r20) (.block 2 (.seq (.reg false f13r21) (.cond (.t 125) (.seq (.reg false f13r22) .ret) (.seq (.reg false f13r23) (.cond (.t 138) (.seq (.reg false f13r24) .ret) (.seq (.reg false f13r25) (.cond (.t 154) (.seq (.reg false f13r26) .ret) .skip)))))))) (.seq (.reg false f13r27) .ret))))))))), [.tmp 2]⟩
/-! 14: stolon/db.Hear -/
def f14r0 : List I := [⟨(some 3), none, [], false, .box (.t 0)⟩,
  ⟨(some 5), none, [], false, .box (.t 2)⟩,
  ⟨(some 6), none, [], false, .alloc [.int .i64 0, .int .i64 0, .int .i64 0, nilS]⟩,
  ⟨(some 7), none, [], false, .mv (.c (nilS))⟩,
  ⟨(some 8), none, [], false, .mv (.c (.int .i64 0))⟩]
def f14r1 : List I := [⟨(some 14), none, [], false, .mv (.t 1)⟩,
  ⟨(some 15), none, [], false, .call 27 [(.t 14)]⟩,
  ⟨(some 16), none, [], false, .un .not (.t 15)⟩]
def f14r2 : List I := [⟨(some 17), none, [], false, .ld true 4 (.t 3)⟩,
  ⟨none, none, [], false, .st 4 (.t 6) (.t 17)⟩,
  ⟨(some 7), none, [], false, .mv (.c (nilS))⟩,
  ⟨(some 8), none, [], false, .mv (.c (.int .i64 0))⟩]
def f14r3 : List I := [⟨(some 18), none, [], false, .ld true 4 (.t 3)⟩,
  ⟨(some 19), none, [], false, .mv (.t 1)⟩,
  ⟨(some 20), none, [], false, .build [.int .i64 0, .int .i64 0, .int .i64 0, nilS, .int .i64 0, nilS, .int .i64 0] [(0, 4, (.t 18)), (4, 1, (.t 19))]⟩,
  ⟨(some 21), none, [], false, .box (.t 20)⟩,
  ⟨(some 9), none, [], false, .mv (.t 21)⟩]
def f14r4 : List I := [⟨(some 10), none, [], false, .mv (.c (.fn 28 []))⟩]
def f14r5 : List I := [⟨(some 22), none, [], false, .fad 3 (.t 5)⟩,
  ⟨(some 23), none, [], false, .ld false 1 (.t 22)⟩,
  ⟨(some 24), none, [], false, .build [.int .u8 0, .int .u32 0, nilS] [(0, 1, (.c (.int .u8 2))), (1, 1, (.t 23))]⟩,
  ⟨(some 11), none, [], false, .alloc [.int .u8 0, .int .u32 0, nilS]⟩,
  ⟨none, none, [], false, .st 3 (.t 11) (.t 24)⟩]
def f14r6 : List I := [⟨(some 25), none, [], false, .fad 0 (.t 5)⟩,
  ⟨(some 26), none, [], false, .ld false 1 (.t 25)⟩]
def f14r7 : List I := [⟨(some 28), none, [], false, .bin .eql .other (.t 26) (.c (.int .u8 18))⟩,
  ⟨(some 27), none, [], false, .mv (.t 28)⟩]
def f14r8 : List I := [⟨(some 29), none, [], false, .mv (.t 9)⟩,
  ⟨(some 30), none, [], false, .ld true 3 (.t 11)⟩,
  ⟨(some 31), none, [], false, .mkf 30 [] [(.t 3)]⟩,
  ⟨(some 32), none, [], false, .call 29 [(.t 29), (.t 30), (.t 31)]⟩]
def f14r9 : List I := [⟨(some 34), none, [], false, .bin .eql .other (.t 26) (.c (.int .u8 22))⟩,
  ⟨(some 33), none, [], false, .mv (.t 34)⟩]
def f14r10 : List I := [⟨(some 35), none, [], false, .mv (.t 9)⟩,
  ⟨(some 36), none, [], false, .ld true 3 (.t 11)⟩,
  ⟨(some 37), none, [], false, .mkf 31 [] [(.t 3)]⟩,
  ⟨(some 38), none, [], false, .call 29 [(.t 35), (.t 36), (.t 37)]⟩]
def f14r11 : List I := [⟨(some 40), none, [], false, .bin .eql .other (.t 26) (.c (.int .u8 23))⟩,
  ⟨(some 39), none, [], false, .mv (.t 40)⟩]
def f14r12 : List I := [⟨(some 41), none, [], false, .mv (.t 9)⟩,
  ⟨(some 42), none, [], false, .fad 3 (.t 5)⟩,
  ⟨(some 43), none, [], false, .ld false 1 (.t 42)⟩,
  ⟨(some 44), none, [], false, .build [.int .u8 0, .int .u32 0, nilS] [(0, 1, (.c (.int .u8 3))), (1, 1, (.t 43))]⟩,
  ⟨(some 45), none, [], false, .mv (.t 10)⟩,
  ⟨(some 46), none, [], false, .call 29 [(.t 41), (.t 44), (.t 45)]⟩]
def f14r13 : List I := [⟨(some 48), none, [], false, .bin .eql .other (.t 26) (.c (.int .u8 34))⟩,
  ⟨(some 47), none, [], false, .mv (.t 48)⟩]
def f14r14 : List I := [⟨(some 49), none, [], false, .fad 8 (.t 5)⟩,
  ⟨(some 50), none, [], false, .ld false 1 (.t 49)⟩,
  ⟨(some 51), none, [], false, .len (.t 50)⟩,
  ⟨(some 52), none, [], false, .mv (.c (.int .i64 0))⟩]
def f14r15 : List I := [⟨(some 53), none, [], false, .bin .lss .other (.t 52) (.t 51)⟩]
def f14r16 : List I := [⟨(some 54), none, [], false, .iad 3 none (.t 50) (.t 52)⟩,
  ⟨(some 55), none, [], false, .ld true 3 (.t 54)⟩,
  ⟨(some 13), none, [], false, .alloc [.int .u8 0, .int .u32 0, nilS]⟩,
  ⟨none, none, [], false, .st 3 (.t 13) (.t 55)⟩]
def f14r17 : List I := [⟨(some 56), none, [], false, .mv (.t 9)⟩,
  ⟨(some 57), none, [], false, .ld true 3 (.t 13)⟩,
  ⟨(some 58), none, [], false, .mv (.t 10)⟩,
  ⟨(some 59), none, [], false, .call 29 [(.t 56), (.t 57), (.t 58)]⟩]
def f14r18 : List I := [⟨(some 60), none, [], false, .bin .add .other (.t 52) (.c (.int .i64 1))⟩,
  ⟨(some 52), none, [], false, .mv (.t 60)⟩]
def f14l0 : C := (.seq (.reg false f14r15) (.seq (.cond (.t 53) .skip (.exit 1)) (.seq (.block 2 (.seq (.reg false f14r16) (.reg false f14r17))) (.reg false f14r18))))
def f14r19 : List I := [⟨(some 61), none, [], false, .mv (.t 9)⟩,
  ⟨(some 62), none, [], false, .nck (.t 61)⟩,
  ⟨(some 63), none, [], false, .fad 0 (.t 62)⟩,
  ⟨(some 64), none, [], false, .ld true 4 (.t 63)⟩,
  ⟨(some 69), none, [], false, .mv (.t 9)⟩,
  ⟨(some 70), none, [], false, .nck (.t 69)⟩,
  ⟨(some 71), none, [], false, .fad 6 (.t 70)⟩,
  ⟨(some 72), none, [], false, .call 32 [(.t 71)]⟩,
  ⟨none, none, [], false, .st 4 (.t 6) (.t 64)⟩,
  ⟨(some 65), none, [], false, .mv (.t 9)⟩,
  ⟨(some 66), none, [], false, .nck (.t 65)⟩,
  ⟨(some 67), none, [], false, .fad 5 (.t 66)⟩,
  ⟨(some 68), none, [], true, .ld false 1 (.t 67)⟩,
  ⟨(some 7), none, [], false, .mv (.t 68)⟩,
  ⟨(some 8), none, [], false, .mv (.t 72)⟩]
def f14 : Fn := ⟨[0, 1, 2, 3, 5, 6, 7, 8, 9, 10, 11, 13, 16, 26, 27, 33, 39, 47, 50, 51, 52, 53], (.seq (.reg false f14r0) (.seq (.seq (.reg false f14r1) (.cond (.t 16) (.seq (.reg false f14r2) .ret) .skip)) (.seq (.reg false f14r3) (.seq (.reg false f14r4) (.seq (.reg false f14r5) (.seq (.seq (.reg false f14r6) (.block 0 (.seq (.reg false f14r7) (.cond (.t 27) (.reg false f14r8) (.seq (.reg false f14r9) (.cond (.t 33) (.reg false f14r10) (.seq (.reg false f14r11) (.cond (.t 39) (.reg false f14r12) (.seq (.reg false f14r13) (.cond (.t 47) (.seq (.reg false f14r14) (.block 1 (.loop f14l0))) .skip)))))))))) (.seq (.reg true f14r19) .ret))))))), [.cell 6 true 4, .tmp 7, .tmp 8]⟩
/-! 15: stolon/stolonref09.Hear -/
def f15r0 : List I := [⟨(some 3), none, [], false, .box (.t 0)⟩,
  ⟨(some 5), none, [], false, .box (.t 2)⟩,
  ⟨(some 6), none, [], false, .alloc [.int .i64 0, .int .i64 0, .int .i64 0, nilS]⟩,
  ⟨(some 7), none, [], false, .mv (.c (nilS))⟩,
  ⟨(some 8), none, [], false, .mv (.c (.int .i64 0))⟩]
def f15r1 : List I := [⟨(some 16), none, [], false, .mv (.t 1)⟩,
  ⟨(some 17), none, [], false, .bin .lss .other (.t 16) (.c (.int .i64 0))⟩,
  ⟨(some 18), none, [], false, .mv (.t 17)⟩,
  ⟨(some 19), (some (18, false)), [], false, .mv (.t 1)⟩,
  ⟨(some 20), (some (18, false)), [], false, .bin .gtr .other (.t 19) (.c (.int .i64 63))⟩,
  ⟨(some 21), none, [], false, .pick (.t 18) (.c (.bool true)) (.t 20)⟩]
def f15r2 : List I := [⟨(some 22), none, [], false, .ld true 4 (.t 3)⟩,
  ⟨none, none, [], false, .st 4 (.t 6) (.t 22)⟩,
  ⟨(some 7), none, [], false, .mv (.c (nilS))⟩,
  ⟨(some 8), none, [], false, .mv (.c (.int .i64 0))⟩]
def f15r3 : List I := [⟨(some 23), none, [], false, .fad 8 (.t 5)⟩,
  ⟨(some 24), none, [], false, .ld false 1 (.t 23)⟩,
  ⟨(some 9), none, [], false, .mv (.t 24)⟩]
def f15r4 : List I := [⟨(some 25), none, [], false, .fad 0 (.t 5)⟩,
  ⟨(some 26), none, [], false, .ld false 1 (.t 25)⟩]
def f15r5 : List I := [⟨(some 29), none, [], false, .bin .eql .other (.t 26) (.c (.int .u8 18))⟩,
  ⟨(some 28), none, [], false, .mv (.t 29)⟩]
def f15r6 : List I := [⟨(some 30), none, [], false, .bin .eql .other (.t 26) (.c (.int .u8 22))⟩,
  ⟨(some 28), none, [], false, .mv (.t 30)⟩]
def f15r7 : List I := [⟨(some 31), none, [], false, .fad 3 (.t 5)⟩,
  ⟨(some 32), none, [], false, .ld false 1 (.t 31)⟩,
  ⟨(some 33), none, [], false, .build [.int .u8 0, .int .u32 0, nilS] [(0, 1, (.c (.int .u8 2))), (1, 1, (.t 32))]⟩,
  ⟨(some 34), none, [], false, .bslice 3 1 [.int .u8 0, .int .u32 0, nilS] [(0, 3, (.t 33))]⟩,
  ⟨(some 9), none, [], false, .mv (.t 34)⟩]
def f15r8 : List I := [⟨(some 36), none, [], false, .bin .eql .other (.t 26) (.c (.int .u8 23))⟩,
  ⟨(some 35), none, [], false, .mv (.t 36)⟩]
def f15r9 : List I := [⟨(some 37), none, [], false, .fad 3 (.t 5)⟩,
  ⟨(some 38), none, [], false, .ld false 1 (.t 37)⟩,
  ⟨(some 39), none, [], false, .build [.int .u8 0, .int .u32 0, nilS] [(0, 1, (.c (.int .u8 3))), (1, 1, (.t 38))]⟩,
  ⟨(some 40), none, [], false, .bslice 3 1 [.int .u8 0, .int .u32 0, nilS] [(0, 3, (.t 39))]⟩,
  ⟨(some 9), none, [], false, .mv (.t 40)⟩]
def f15r10 : List I := [⟨(some 42), none, [], false, .bin .eql .other (.t 26) (.c (.int .u8 34))⟩,
  ⟨(some 41), none, [], false, .mv (.t 42)⟩]
def f15r11 : List I := [⟨(some 27), none, [], false, .ld true 4 (.t 3)⟩,
  ⟨none, none, [], false, .st 4 (.t 6) (.t 27)⟩,
  ⟨(some 7), none, [], false, .mv (.c (nilS))⟩,
  ⟨(some 8), none, [], false, .mv (.c (.int .i64 0))⟩]
def f15r12 : List I := [⟨(some 10), none, [], false, .mv (.c (nilS))⟩]
def f15r13 : List I := [⟨(some 11), none, [], false, .mv (.c (.int .i64 0))⟩]
def f15r14 : List I := [⟨(some 12), none, [], false, .mv (.c (.int .i64 0))⟩]
def f15r15 : List I := [⟨(some 43), none, [], false, .mv (.t 12)⟩,
  ⟨(some 44), none, [], false, .mv (.t 9)⟩,
  ⟨(some 45), none, [], false, .len (.t 44)⟩,
  ⟨(some 46), none, [], false, .bin .lss .other (.t 43) (.t 45)⟩]
def f15r16 : List I := [⟨(some 50), none, [false], false, .ld true 4 (.t 3)⟩,
  ⟨(some 51), none, [], false, .mv (.t 1)⟩,
  ⟨(some 52), none, [], false, .mv (.t 9)⟩,
  ⟨(some 53), none, [], false, .mv (.t 12)⟩,
  ⟨(some 54), none, [], false, .iad 3 none (.t 52) (.t 53)⟩,
  ⟨(some 55), none, [], false, .fad 0 (.t 54)⟩,
  ⟨(some 56), none, [false], false, .ld false 1 (.t 55)⟩,
  ⟨(some 57), none, [], false, .mv (.t 9)⟩,
  ⟨(some 58), none, [], false, .mv (.t 12)⟩,
  ⟨(some 59), none, [], false, .iad 3 none (.t 57) (.t 58)⟩,
  ⟨(some 60), none, [], false, .fad 1 (.t 59)⟩,
  ⟨(some 61), none, [false], false, .ld false 1 (.t 60)⟩,
  ⟨(some 62), none, [], false, .mv (.t 9)⟩,
  ⟨(some 63), none, [], false, .mv (.t 12)⟩,
  ⟨(some 64), none, [], false, .iad 3 none (.t 62) (.t 63)⟩,
  ⟨(some 65), none, [], false, .fad 2 (.t 64)⟩,
  ⟨(some 66), none, [false], false, .ld false 1 (.t 65)⟩,
  ⟨(some 67), none, [], false, .fad 0 (.t 5)⟩,
  ⟨(some 68), none, [false], false, .ld false 1 (.t 67)⟩,
  ⟨(some 69), none, [], false, .bin .eql .other (.t 68) (.c (.int .u8 18))⟩,
  ⟨(some 70), none, [], false, .fad 0 (.t 5)⟩,
  ⟨(some 71), none, [false], false, .ld false 1 (.t 70)⟩,
  ⟨(some 72), none, [], false, .bin .eql .other (.t 71) (.c (.int .u8 22))⟩,
  ⟨(some 73), none, [false], false, .call 33 [(.t 50), (.t 51), (.t 56), (.t 61), (.t 66), (.t 69), (.t 72)]⟩,
  ⟨(some 49), none, [], false, .mv (.t 73)⟩,
  ⟨(some 74), none, [], false, .ext 0 (.t 49)⟩,
  ⟨(some 13), none, [], false, .alloc [.int .i64 0, .int .i64 0, .int .i64 0, nilS]⟩,
  ⟨none, none, [], false, .st 4 (.t 13) (.t 74)⟩,
  ⟨(some 75), none, [], false, .ext 1 (.t 49)⟩,
  ⟨(some 76), none, [], false, .ext 2 (.t 49)⟩,
  ⟨(some 14), none, [], false, .mv (.t 75)⟩,
  ⟨(some 15), none, [], false, .mv (.t 76)⟩]
def f15r17 : List I := [⟨(some 77), none, [], false, .ld true 4 (.t 13)⟩,
  ⟨none, none, [], false, .st 4 (.t 3) (.t 77)⟩]
def f15r18 : List I := [⟨(some 78), none, [], false, .mv (.t 10)⟩,
  ⟨(some 79), none, [], false, .mv (.t 14)⟩,
  ⟨(some 80), none, [], false, .app 3 40 (.t 78) (.t 79)⟩,
  ⟨(some 10), none, [], false, .mv (.t 80)⟩]
def f15r19 : List I := [⟨(some 81), none, [], false, .mv (.t 15)⟩]
def f15r20 : List I := [⟨(some 82), none, [], false, .mv (.t 11)⟩,
  ⟨(some 83), none, [], false, .bin .add .other (.t 82) (.c (.int .i64 1))⟩,
  ⟨(some 11), none, [], false, .mv (.t 83)⟩]
def f15r21 : List I := [⟨(some 47), none, [], false, .mv (.t 12)⟩,
  ⟨(some 48), none, [], false, .bin .add .other (.t 47) (.c (.int .i64 1))⟩,
  ⟨(some 12), none, [], false, .mv (.t 48)⟩]
def f15l0 : C := (.seq (.seq (.reg false f15r15) (.cond (.t 46) .skip (.exit 1))) (.seq (.block 2 (.seq (.reg true f15r16) (.seq (.reg false f15r17) (.seq (.reg false f15r18) (.seq (.reg false f15r19) (.cond (.t 81) (.reg false f15r20) .skip)))))) (.reg false f15r21)))
def f15r22 : List I := [⟨(some 84), none, [], false, .ld true 4 (.t 3)⟩,
  ⟨(some 85), none, [], false, .mv (.t 10)⟩,
  ⟨(some 86), none, [], false, .mv (.t 11)⟩,
  ⟨none, none, [], false, .st 4 (.t 6) (.t 84)⟩,
  ⟨(some 7), none, [], false, .mv (.t 85)⟩,
  ⟨(some 8), none, [], false, .mv (.t 86)⟩]
def f15 : Fn := ⟨[0, 1, 2, 3, 5, 6, 7, 8, 9, 10, 11, 12, 13, 14, 15, 21, 26, 28, 35, 41, 46, 81], (.seq (.reg false f15r0) (.seq (.seq (.reg false f15r1) (.cond (.t 21) (.seq (.reg false f15r2) .ret) .skip)) (.seq (.reg false f15r3) (.seq (.seq (.reg false f15r4) (.block 0 (.seq (.seq (.reg false f15r5) (.cond (.t 28) .skip (.reg false f15r6))) (.cond (.t 28) (.reg false f15r7) (.seq (.reg false f15r8) (.cond (.t 35) (.reg false f15r9) (.seq (.reg false f15r10) (.cond (.t 41) .skip (.seq (.reg false f15r11) .ret))))))))) (.seq (.reg false f15r12) (.seq (.reg false f15r13) (.seq (.seq (.reg false f15r14) (.block 1 (.loop f15l0))) (.seq (.reg false f15r22) .ret)))))))), [.cell 6 true 4, .tmp 7, .tmp 8]⟩
/-! 16: stolon/stolonref09.Same -/
def f16r0 : List I := [⟨(some 2), none, [], false, .box (.t 0)⟩,
  ⟨(some 3), none, [], false, .box (.t 1)⟩,
  ⟨(some 4), none, [], false, .mv (.c (.bool false))⟩]
def f16r1 : List I := [⟨(some 9), none, [], false, .fad 0 (.t 2)⟩,
  ⟨(some 10), none, [], false, .ld true 2 (.t 9)⟩,
  ⟨(some 11), none, [], false, .fad 0 (.t 3)⟩,
  ⟨(some 12), none, [], false, .ld true 2 (.t 11)⟩,
  ⟨(some 13), none, [], false, .bin .neq (.plain [some .i64, some .i64]) (.t 10) (.t 12)⟩,
  ⟨(some 14), none, [], false, .mv (.t 13)⟩,
  ⟨(some 15), (some (14, false)), [], false, .fad 2 (.t 2)⟩,
  ⟨(some 16), (some (14, false)), [], false, .ld false 1 (.t 15)⟩,
  ⟨(some 17), (some (14, false)), [], false, .fad 2 (.t 3)⟩,
  ⟨(some 18), (some (14, false)), [], false, .ld false 1 (.t 17)⟩,
  ⟨(some 19), (some (14, false)), [], false, .bin .neq .other (.t 16) (.t 18)⟩,
  ⟨(some 20), none, [], false, .pick (.t 14) (.c (.bool true)) (.t 19)⟩,
  ⟨(some 21), none, [], false, .mv (.t 20)⟩,
  ⟨(some 22), (some (21, false)), [], false, .fad 3 (.t 2)⟩,
  ⟨(some 23), (some (21, false)), [], false, .ld false 1 (.t 22)⟩,
  ⟨(some 24), (some (21, false)), [], false, .len (.t 23)⟩,
  ⟨(some 25), (some (21, false)), [], false, .fad 3 (.t 3)⟩,
  ⟨(some 26), (some (21, false)), [], false, .ld false 1 (.t 25)⟩,
  ⟨(some 27), (some (21, false)), [], false, .len (.t 26)⟩,
  ⟨(some 28), (some (21, false)), [], false, .bin .neq .other (.t 24) (.t 27)⟩,
  ⟨(some 29), none, [], false, .pick (.t 21) (.c (.bool true)) (.t 28)⟩]
def f16r2 : List I := [⟨(some 4), none, [], false, .mv (.c (.bool false))⟩]
def f16r3 : List I := [⟨(some 5), none, [], false, .mv (.c (.int .i64 0))⟩]
def f16r4 : List I := [⟨(some 30), none, [], false, .mv (.t 5)⟩,
  ⟨(some 31), none, [], false, .fad 3 (.t 2)⟩,
  ⟨(some 32), none, [], false, .ld false 1 (.t 31)⟩,
  ⟨(some 33), none, [], false, .len (.t 32)⟩,
  ⟨(some 34), none, [], false, .bin .lss .other (.t 30) (.t 33)⟩]
def f16r5 : List I := [⟨(some 37), none, [], false, .fad 3 (.t 2)⟩,
  ⟨(some 38), none, [], false, .ld false 1 (.t 37)⟩,
  ⟨(some 39), none, [], false, .mv (.t 5)⟩,
  ⟨(some 40), none, [], false, .iad 7 none (.t 38) (.t 39)⟩,
  ⟨(some 41), none, [], false, .ld true 7 (.t 40)⟩,
  ⟨(some 6), none, [], false, .alloc [.int .i64 0, .int .i64 0, .int .i64 0, .int .u32 0, .bool false, .int .i64 0, nilS]⟩,
  ⟨none, none, [], false, .st 7 (.t 6) (.t 41)⟩]
def f16r6 : List I := [⟨(some 42), none, [], false, .fad 3 (.t 3)⟩,
  ⟨(some 43), none, [], false, .ld false 1 (.t 42)⟩,
  ⟨(some 44), none, [], false, .mv (.t 5)⟩,
  ⟨(some 45), none, [], false, .iad 7 none (.t 43) (.t 44)⟩,
  ⟨(some 46), none, [], false, .ld true 7 (.t 45)⟩,
  ⟨(some 7), none, [], false, .alloc [.int .i64 0, .int .i64 0, .int .i64 0, .int .u32 0, .bool false, .int .i64 0, nilS]⟩,
  ⟨none, none, [], false, .st 7 (.t 7) (.t 46)⟩]
def f16r7 : List I := [⟨(some 47), none, [], false, .fad 3 (.t 6)⟩,
  ⟨(some 48), none, [], false, .ld true 4 (.t 47)⟩,
  ⟨(some 49), none, [], false, .fad 3 (.t 7)⟩,
  ⟨(some 50), none, [], false, .ld true 4 (.t 49)⟩,
  ⟨(some 51), none, [], false, .call 34 [(.t 48), (.t 50)]⟩,
  ⟨(some 8), none, [], false, .mv (.t 51)⟩]
def f16r8 : List I := [⟨(some 52), none, [], false, .mv (.t 8)⟩,
  ⟨(some 53), none, [], false, .un .not (.t 52)⟩,
  ⟨(some 54), none, [], false, .mv (.t 53)⟩,
  ⟨(some 55), (some (54, false)), [], false, .fad 0 (.t 6)⟩,
  ⟨(some 56), (some (54, false)), [], false, .ld false 1 (.t 55)⟩,
  ⟨(some 57), (some (54, false)), [], false, .fad 0 (.t 7)⟩,
  ⟨(some 58), (some (54, false)), [], false, .ld false 1 (.t 57)⟩,
  ⟨(some 59), (some (54, false)), [], false, .bin .neq .other (.t 56) (.t 58)⟩,
  ⟨(some 60), none, [], false, .pick (.t 54) (.c (.bool true)) (.t 59)⟩,
  ⟨(some 61), none, [], false, .mv (.t 60)⟩,
  ⟨(some 62), (some (61, false)), [], false, .fad 1 (.t 6)⟩,
  ⟨(some 63), (some (61, false)), [], false, .ld false 1 (.t 62)⟩,
  ⟨(some 64), (some (61, false)), [], false, .fad 1 (.t 7)⟩,
  ⟨(some 65), (some (61, false)), [], false, .ld false 1 (.t 64)⟩,
  ⟨(some 66), (some (61, false)), [], false, .bin .neq .other (.t 63) (.t 65)⟩,
  ⟨(some 67), none, [], false, .pick (.t 61) (.c (.bool true)) (.t 66)⟩,
  ⟨(some 68), none, [], false, .mv (.t 67)⟩,
  ⟨(some 69), (some (68, false)), [], false, .fad 2 (.t 6)⟩,
  ⟨(some 70), (some (68, false)), [], false, .ld false 1 (.t 69)⟩,
  ⟨(some 71), (some (68, false)), [], false, .fad 2 (.t 7)⟩,
  ⟨(some 72), (some (68, false)), [], false, .ld false 1 (.t 71)⟩,
  ⟨(some 73), (some (68, false)), [], false, .bin .neq .other (.t 70) (.t 72)⟩,
  ⟨(some 74), none, [], false, .pick (.t 68) (.c (.bool true)) (.t 73)⟩]
def f16r9 : List I := [⟨(some 4), none, [], false, .mv (.c (.bool false))⟩]
def f16r10 : List I := [⟨(some 35), none, [], false, .mv (.t 5)⟩,
  ⟨(some 36), none, [], false, .bin .add .other (.t 35) (.c (.int .i64 1))⟩,
  ⟨(some 5), none, [], false, .mv (.t 36)⟩]
def f16l0 : C := (.seq (.seq (.reg false f16r4) (.cond (.t 34) .skip (.exit 0))) (.seq (.block 1 (.seq (.reg false f16r5) (.seq (.reg false f16r6) (.seq (.reg false f16r7) (.seq (.reg false f16r8) (.cond (.t 74) (.seq (.reg false f16r9) .ret) .skip)))))) (.reg false f16r10)))
def f16r11 : List I := [⟨(some 4), none, [], false, .mv (.c (.bool true))⟩]
def f16 : Fn := ⟨[0, 1, 2, 3, 4, 5, 6, 7, 8, 29, 34, 74], (.seq (.reg false f16r0) (.seq (.seq (.reg false f16r1) (.cond (.t 29) (.seq (.reg false f16r2) .ret) .skip)) (.seq (.seq (.reg false f16r3) (.block 0 (.loop f16l0))) (.seq (.reg false f16r11) .ret)))), [.tmp 4]⟩
/-! 17: stolon/stolonref09.Asks -/
def f17r0 : List I := [⟨(some 4), none, [], false, .mv (.c (.bool false))⟩]
def f17r1 : List I := [⟨(some 7), none, [], false, .mv (.t 0)⟩,
  ⟨(some 8), none, [], false, .len (.t 7)⟩,
  ⟨(some 9), none, [], false, .mv (.t 1)⟩,
  ⟨(some 10), none, [], false, .len (.t 9)⟩,
  ⟨(some 11), none, [], false, .bin .neq .other (.t 8) (.t 10)⟩]
def f17r2 : List I := [⟨(some 4), none, [], false, .mv (.c (.bool false))⟩]
def f17r3 : List I := [⟨(some 5), none, [], false, .mv (.c (.int .i64 0))⟩]
def f17r4 : List I := [⟨(some 12), none, [], false, .mv (.t 5)⟩,
  ⟨(some 13), none, [], false, .mv (.t 0)⟩,
  ⟨(some 14), none, [], false, .len (.t 13)⟩,
  ⟨(some 15), none, [], false, .bin .lss .other (.t 12) (.t 14)⟩]
def f17r5 : List I := [⟨(some 18), none, [], false, .mv (.t 0)⟩,
  ⟨(some 19), none, [], false, .mv (.t 5)⟩,
  ⟨(some 20), none, [], false, .iad 3 none (.t 18) (.t 19)⟩,
  ⟨(some 21), none, [], false, .fad 1 (.t 20)⟩,
  ⟨(some 22), none, [false, false], false, .ld true 2 (.t 21)⟩,
  ⟨(some 23), none, [], false, .bslice 2 1 [.int .u32 0, nilS] [(0, 2, (.t 22))]⟩,
  ⟨(some 24), none, [], false, .mv (.t 1)⟩,
  ⟨(some 25), none, [], false, .mv (.t 5)⟩,
  ⟨(some 26), none, [], false, .iad 3 none (.t 24) (.t 25)⟩,
  ⟨(some 27), none, [], false, .fad 1 (.t 26)⟩,
  ⟨(some 28), none, [false, false], false, .ld true 2 (.t 27)⟩,
  ⟨(some 29), none, [], false, .bslice 2 1 [.int .u32 0, nilS] [(0, 2, (.t 28))]⟩,
  ⟨(some 30), none, [true, true], false, .call 35 [(.t 23), (.t 29)]⟩,
  ⟨(some 6), none, [], false, .mv (.t 30)⟩]
def f17r6 : List I := [⟨(some 31), none, [], false, .mv (.t 6)⟩,
  ⟨(some 32), none, [], false, .un .not (.t 31)⟩,
  ⟨(some 33), none, [], false, .mv (.t 32)⟩,
  ⟨(some 34), (some (33, false)), [], false, .mv (.t 0)⟩,
  ⟨(some 35), (some (33, false)), [], false, .mv (.t 5)⟩,
  ⟨(some 36), (some (33, false)), [], false, .iad 3 none (.t 34) (.t 35)⟩,
  ⟨(some 37), (some (33, false)), [], false, .fad 0 (.t 36)⟩,
  ⟨(some 38), (some (33, false)), [], false, .ld false 1 (.t 37)⟩,
  ⟨(some 39), (some (33, false)), [], false, .mv (.t 1)⟩,
  ⟨(some 40), (some (33, false)), [], false, .mv (.t 5)⟩,
  ⟨(some 41), (some (33, false)), [], false, .iad 3 none (.t 39) (.t 40)⟩,
  ⟨(some 42), (some (33, false)), [], false, .fad 0 (.t 41)⟩,
  ⟨(some 43), (some (33, false)), [], false, .ld false 1 (.t 42)⟩,
  ⟨(some 44), (some (33, false)), [], false, .bin .neq .other (.t 38) (.t 43)⟩,
  ⟨(some 45), none, [], false, .pick (.t 33) (.c (.bool true)) (.t 44)⟩]
def f17r7 : List I := [⟨(some 4), none, [], false, .mv (.c (.bool false))⟩]
def f17r8 : List I := [⟨(some 16), none, [], false, .mv (.t 5)⟩,
  ⟨(some 17), none, [], false, .bin .add .other (.t 16) (.c (.int .i64 1))⟩,
  ⟨(some 5), none, [], false, .mv (.t 17)⟩]
def f17l0 : C := (.seq (.seq (.reg false f17r4) (.cond (.t 15) .skip (.exit 0))) (.seq (.block 1 (.seq (.reg true f17r5) (.seq (.reg true f17r6) (.cond (.t 45) (.seq (.reg false f17r7) .ret) .skip)))) (.reg false f17r8)))
def f17r9 : List I := [⟨(some 4), none, [], false, .mv (.c (.bool true))⟩]
def f17 : Fn := ⟨[0, 1, 4, 5, 6, 11, 15, 45], (.seq (.reg false f17r0) (.seq (.seq (.reg false f17r1) (.cond (.t 11) (.seq (.reg false f17r2) .ret) .skip)) (.seq (.seq (.reg false f17r3) (.block 0 (.loop f17l0))) (.seq (.reg false f17r9) .ret)))), [.tmp 4]⟩
/-! 18: stolon/db.Wants -/
def f18r0 : List I := [⟨(some 4), none, [], false, .box (.t 0)⟩,
  ⟨(some 8), none, [], false, .mv (.c (.bool false))⟩]
def f18r1 : List I := [⟨(some 12), none, [], false, .ld true 4 (.t 4)⟩,
  ⟨(some 13), none, [], false, .mv (.t 1)⟩,
  ⟨(some 14), none, [], false, .mv (.t 2)⟩,
  ⟨(some 15), none, [], false, .build [.int .i64 0, .int .u32 0] [(0, 1, (.t 13)), (1, 1, (.t 14))]⟩,
  ⟨(some 16), none, [], false, .call 36 [(.t 12), (.t 15)]⟩,
  ⟨(some 11), none, [], false, .mv (.t 16)⟩,
  ⟨(some 17), none, [], false, .ext 0 (.t 11)⟩,
  ⟨(some 18), none, [], false, .ext 1 (.t 11)⟩,
  ⟨(some 9), none, [], false, .mv (.t 17)⟩,
  ⟨(some 10), none, [], false, .mv (.t 18)⟩]
def f18r2 : List I := [⟨(some 19), none, [], false, .mv (.t 10)⟩,
  ⟨(some 20), none, [], false, .mv (.t 19)⟩,
  ⟨(some 21), (some (20, true)), [], false, .fad 3 (.t 4)⟩,
  ⟨(some 22), (some (20, true)), [], false, .ld false 1 (.t 21)⟩,
  ⟨(some 23), (some (20, true)), [], false, .mv (.t 9)⟩,
  ⟨(some 24), (some (20, true)), [], false, .iad 7 none (.t 22) (.t 23)⟩,
  ⟨(some 25), (some (20, true)), [], false, .fad 3 (.t 24)⟩,
  ⟨(some 26), (some (20, true)), [], false, .ld true 4 (.t 25)⟩,
  ⟨(some 27), (some (20, true)), [], false, .mv (.t 3)⟩,
  ⟨(some 28), (some (20, true)), [], false, .call 37 [(.t 26), (.t 27)]⟩,
  ⟨(some 29), none, [], false, .pick (.t 20) (.t 28) (.c (.bool false))⟩,
  ⟨(some 8), none, [], false, .mv (.t 29)⟩]
def f18 : Fn := ⟨[0, 1, 2, 3, 4, 8, 9, 10], (.seq (.reg false f18r0) (.seq (.reg false f18r1) (.seq (.reg false f18r2) .ret))), [.tmp 8]⟩
/-! 19: stolon/stolonref08.Right -/
def f19r0 : List I := [⟨(some 1), none, [], false, .box (.t 0)⟩,
  ⟨(some 2), none, [], false, .mv (.c (.bool false))⟩]
def f19r1 : List I := [⟨(some 6), none, [], false, .fad 0 (.t 1)⟩,
  ⟨(some 7), none, [], false, .ld false 1 (.t 6)⟩,
  ⟨(some 8), none, [], false, .call 26 [(.t 7)]⟩,
  ⟨(some 3), none, [], false, .mv (.t 8)⟩]
def f19r2 : List I := [⟨(some 9), none, [], false, .mv (.t 3)⟩,
  ⟨(some 10), none, [], false, .un .not (.t 9)⟩,
  ⟨(some 11), none, [], false, .mv (.t 10)⟩,
  ⟨(some 12), (some (11, false)), [], false, .fad 3 (.t 1)⟩,
  ⟨(some 13), (some (11, false)), [], false, .ld false 1 (.t 12)⟩,
  ⟨(some 14), (some (11, false)), [], false, .len (.t 13)⟩,
  ⟨(some 15), (some (11, false)), [], false, .bin .gtr .other (.t 14) (.c (.int .i64 64))⟩,
  ⟨(some 16), none, [], false, .pick (.t 11) (.c (.bool true)) (.t 15)⟩]
def f19r3 : List I := [⟨(some 2), none, [], false, .mv (.c (.bool false))⟩]
def f19r4 : List I := [⟨(some 17), none, [], false, .fad 1 (.t 1)⟩,
  ⟨(some 18), none, [], false, .ld false 1 (.t 17)⟩,
  ⟨(some 19), none, [], false, .mv (.t 18)⟩,
  ⟨(some 20), (some (19, true)), [], false, .fad 2 (.t 1)⟩,
  ⟨(some 21), (some (19, true)), [], false, .ld false 1 (.t 20)⟩,
  ⟨(some 22), (some (19, true)), [], false, .bin .lss .other (.t 21) (.c (.int .i64 1))⟩,
  ⟨(some 23), (some (19, true)), [], false, .mv (.t 22)⟩,
  ⟨(some 24), (some (23, false)), [], false, .fad 2 (.t 1)⟩,
  ⟨(some 25), (some (23, false)), [], false, .ld false 1 (.t 24)⟩,
  ⟨(some 26), (some (23, false)), [], false, .bin .gtr .other (.t 25) (.c (.int .i64 1000000))⟩,
  ⟨(some 27), (some (19, true)), [], false, .pick (.t 23) (.c (.bool true)) (.t 26)⟩,
  ⟨(some 28), none, [], false, .pick (.t 19) (.t 27) (.c (.bool false))⟩,
  ⟨(some 29), none, [], false, .mv (.t 28)⟩,
  ⟨(some 30), (some (29, false)), [], false, .fad 1 (.t 1)⟩,
  ⟨(some 31), (some (29, false)), [], false, .ld false 1 (.t 30)⟩,
  ⟨(some 32), (some (29, false)), [], false, .un .not (.t 31)⟩,
  ⟨(some 33), (some (29, false)), [], false, .mv (.t 32)⟩,
  ⟨(some 34), (some (33, true)), [], false, .fad 2 (.t 1)⟩,
  ⟨(some 35), (some (33, true)), [], false, .ld false 1 (.t 34)⟩,
  ⟨(some 36), (some (33, true)), [], false, .bin .neq .other (.t 35) (.c (.int .i64 0))⟩,
  ⟨(some 37), (some (29, false)), [], false, .pick (.t 33) (.t 36) (.c (.bool false))⟩,
  ⟨(some 38), none, [], false, .pick (.t 29) (.c (.bool true)) (.t 37)⟩]
def f19r5 : List I := [⟨(some 2), none, [], false, .mv (.c (.bool false))⟩]
def f19r6 : List I := [⟨(some 4), none, [], false, .mv (.c (.int .i64 0))⟩]
def f19r7 : List I := [⟨(some 39), none, [], false, .mv (.t 4)⟩,
  ⟨(some 40), none, [], false, .fad 3 (.t 1)⟩,
  ⟨(some 41), none, [], false, .ld false 1 (.t 40)⟩,
  ⟨(some 42), none, [], false, .len (.t 41)⟩,
  ⟨(some 43), none, [], false, .bin .lss .other (.t 39) (.t 42)⟩]
def f19r8 : List I := [⟨(some 46), none, [], false, .fad 3 (.t 1)⟩,
  ⟨(some 47), none, [], false, .ld false 1 (.t 46)⟩,
  ⟨(some 48), none, [], false, .mv (.t 4)⟩,
  ⟨(some 49), none, [], false, .iad 2 none (.t 47) (.t 48)⟩,
  ⟨(some 50), none, [], false, .fad 1 (.t 49)⟩,
  ⟨(some 51), none, [], false, .ld false 1 (.t 50)⟩,
  ⟨(some 5), none, [], false, .mv (.t 51)⟩]
def f19r9 : List I := [⟨(some 52), none, [], false, .mv (.t 5)⟩,
  ⟨(some 53), none, [], false, .bin .lss .other (.t 52) (.c (.int .i64 0))⟩,
  ⟨(some 54), none, [], false, .mv (.t 53)⟩,
  ⟨(some 55), (some (54, false)), [], false, .mv (.t 5)⟩,
  ⟨(some 56), (some (54, false)), [], false, .bin .gtr .other (.t 55) (.c (.int .i64 1000000))⟩,
  ⟨(some 57), none, [], false, .pick (.t 54) (.c (.bool true)) (.t 56)⟩,
  ⟨(some 58), none, [], false, .mv (.t 57)⟩,
  ⟨(some 59), (some (58, false)), [], false, .mv (.t 5)⟩,
  ⟨(some 60), (some (58, false)), [], false, .bin .eql .other (.t 59) (.c (.int .i64 0))⟩,
  ⟨(some 61), (some (58, false)), [], false, .mv (.t 60)⟩,
  ⟨(some 62), (some (61, true)), [], false, .fad 1 (.t 1)⟩,
  ⟨(some 63), (some (61, true)), [], false, .ld false 1 (.t 62)⟩,
  ⟨(some 64), (some (61, true)), [], false, .un .not (.t 63)⟩,
  ⟨(some 65), (some (58, false)), [], false, .pick (.t 61) (.t 64) (.c (.bool false))⟩,
  ⟨(some 66), none, [], false, .pick (.t 58) (.c (.bool true)) (.t 65)⟩,
  ⟨(some 67), none, [], false, .mv (.t 66)⟩,
  ⟨(some 68), (some (67, false)), [], false, .mv (.t 4)⟩,
  ⟨(some 69), (some (67, false)), [], false, .bin .gtr .other (.t 68) (.c (.int .i64 0))⟩,
  ⟨(some 70), (some (67, false)), [], false, .mv (.t 69)⟩,
  ⟨(some 71), (some (70, true)), [], false, .fad 3 (.t 1)⟩,
  ⟨(some 72), (some (70, true)), [], false, .ld false 1 (.t 71)⟩,
  ⟨(some 73), (some (70, true)), [], false, .mv (.t 4)⟩,
  ⟨(some 74), (some (70, true)), [], false, .iad 2 none (.t 72) (.t 73)⟩,
  ⟨(some 75), (some (70, true)), [], false, .fad 0 (.t 74)⟩,
  ⟨(some 76), (some (70, true)), [], false, .ld false 1 (.t 75)⟩,
  ⟨(some 77), (some (70, true)), [], false, .fad 3 (.t 1)⟩,
  ⟨(some 78), (some (70, true)), [], false, .ld false 1 (.t 77)⟩,
  ⟨(some 79), (some (70, true)), [], false, .mv (.t 4)⟩,
  ⟨(some 80), (some (70, true)), [], false, .bin .sub .other (.t 79) (.c (.int .i64 1))⟩,
  ⟨(some 81), (some (70, true)), [], false, .iad 2 none (.t 78) (.t 80)⟩,
  ⟨(some 82), (some (70, true)), [], false, .fad 0 (.t 81)⟩,
  ⟨(some 83), (some (70, true)), [], false, .ld false 1 (.t 82)⟩,
  ⟨(some 84), (some (70, true)), [], false, .bin .leq .other (.t 76) (.t 83)⟩,
  ⟨(some 85), (some (67, false)), [], false, .pick (.t 70) (.t 84) (.c (.bool false))⟩,
  ⟨(some 86), none, [], false, .pick (.t 67) (.c (.bool true)) (.t 85)⟩]
def f19r10 : List I := [⟨(some 2), none, [], false, .mv (.c (.bool false))⟩]
def f19r11 : List I := [⟨(some 44), none, [], false, .mv (.t 4)⟩,
  ⟨(some 45), none, [], false, .bin .add .other (.t 44) (.c (.int .i64 1))⟩,
  ⟨(some 4), none, [], false, .mv (.t 45)⟩]
def f19l0 : C := (.seq (.seq (.reg false f19r7) (.cond (.t 43) .skip (.exit 0))) (.seq (.block 1 (.seq (.reg false f19r8) (.seq (.reg true f19r9) (.cond (.t 86) (.seq (.reg false f19r10) .ret) .skip)))) (.reg false f19r11)))
def f19r12 : List I := [⟨(some 2), none, [], false, .mv (.c (.bool true))⟩]
def f19 : Fn := ⟨[0, 1, 2, 3, 4, 5, 16, 38, 43, 86], (.seq (.reg false f19r0) (.seq (.reg false f19r1) (.seq (.seq (.reg false f19r2) (.cond (.t 16) (.seq (.reg false f19r3) .ret) .skip)) (.seq (.seq (.reg false f19r4) (.cond (.t 38) (.seq (.reg false f19r5) .ret) .skip)) (.seq (.seq (.reg false f19r6) (.block 0 (.loop f19l0))) (.seq (.reg false f19r12) .ret)))))), [.tmp 2]⟩
/-! 20: stolon/db.Tick -/
def f20r0 : List I := [⟨(some 2), none, [], false, .box (.t 0)⟩,
  ⟨(some 4), none, [], false, .alloc [.int .i64 0, .int .i64 0, .int .i64 0, nilS]⟩]
def f20r1 : List I := [⟨(some 8), none, [], false, .mv (.t 1)⟩,
  ⟨(some 9), none, [], false, .mx (.t 8) [(.c (.int .i64 0))]⟩,
  ⟨(some 10), none, [], false, .mn (.t 9) [(.c (.int .i64 1000000))]⟩,
  ⟨(some 1), none, [], false, .mv (.t 10)⟩]
def f20r2 : List I := [⟨(some 5), none, [], false, .mv (.c (nilS))⟩]
def f20r3 : List I := [⟨(some 11), none, [], false, .fad 3 (.t 2)⟩,
  ⟨(some 12), none, [], false, .ld false 1 (.t 11)⟩,
  ⟨(some 13), none, [], false, .len (.t 12)⟩,
  ⟨(some 14), none, [], false, .mv (.c (.int .i64 0))⟩]
def f20r4 : List I := [⟨(some 15), none, [], false, .bin .lss .other (.t 14) (.t 13)⟩]
def f20r5 : List I := [⟨(some 16), none, [], false, .iad 7 none (.t 12) (.t 14)⟩,
  ⟨(some 17), none, [], false, .ld true 7 (.t 16)⟩,
  ⟨(some 7), none, [], false, .alloc [.int .i64 0, .int .i64 0, .int .i64 0, .int .u32 0, .bool false, .int .i64 0, nilS]⟩,
  ⟨none, none, [], false, .st 7 (.t 7) (.t 17)⟩]
def f20r6 : List I := [⟨(some 18), none, [], false, .fad 1 (.t 7)⟩,
  ⟨(some 19), none, [], false, .ld false 1 (.t 18)⟩,
  ⟨(some 20), none, [], false, .mv (.t 1)⟩,
  ⟨(some 21), none, [], false, .bin .sub .other (.t 19) (.t 20)⟩,
  ⟨(some 22), none, [], false, .mx (.t 21) [(.c (.int .i64 0))]⟩,
  ⟨(some 23), none, [], false, .fad 2 (.t 7)⟩,
  ⟨(some 24), none, [], false, .ld false 1 (.t 23)⟩,
  ⟨(some 28), none, [], false, .fad 3 (.t 7)⟩,
  ⟨(some 29), none, [], false, .ld true 4 (.t 28)⟩,
  ⟨(some 30), none, [], false, .mv (.t 1)⟩,
  ⟨(some 31), none, [], false, .call 38 [(.t 29), (.t 30)]⟩,
  ⟨(some 32), none, [], false, .fad 1 (.t 7)⟩,
  ⟨none, none, [], false, .st 1 (.t 32) (.t 22)⟩,
  ⟨(some 25), none, [], false, .mv (.t 1)⟩,
  ⟨(some 26), none, [], false, .bin .sub .other (.t 24) (.t 25)⟩,
  ⟨(some 27), none, [], false, .mx (.t 26) [(.c (.int .i64 0))]⟩,
  ⟨(some 33), none, [], false, .fad 2 (.t 7)⟩,
  ⟨none, none, [], false, .st 1 (.t 33) (.t 27)⟩,
  ⟨(some 34), none, [], false, .fad 3 (.t 7)⟩,
  ⟨none, none, [], false, .st 4 (.t 34) (.t 31)⟩]
def f20r7 : List I := [⟨(some 35), none, [], false, .fad 3 (.t 7)⟩,
  ⟨(some 36), none, [], false, .ld true 4 (.t 35)⟩,
  ⟨(some 37), none, [], false, .call 39 [(.t 36)]⟩]
def f20r8 : List I := [⟨(some 38), none, [], false, .mv (.t 5)⟩,
  ⟨(some 39), none, [], false, .ld true 7 (.t 7)⟩,
  ⟨(some 40), none, [], false, .bslice 7 1 [.int .i64 0, .int .i64 0, .int .i64 0, .int .u32 0, .bool false, .int .i64 0, nilS] [(0, 7, (.t 39))]⟩,
  ⟨(some 41), none, [], false, .app 7 64 (.t 38) (.t 40)⟩,
  ⟨(some 5), none, [], false, .mv (.t 41)⟩]
def f20r9 : List I := [⟨(some 42), none, [], false, .bin .add .other (.t 14) (.c (.int .i64 1))⟩,
  ⟨(some 14), none, [], false, .mv (.t 42)⟩]
def f20l0 : C := (.seq (.reg false f20r4) (.seq (.cond (.t 15) .skip (.exit 0)) (.seq (.block 1 (.seq (.reg false f20r5) (.seq (.reg true f20r6) (.seq (.reg false f20r7) (.cond (.t 37) (.reg false f20r8) .skip))))) (.reg false f20r9))))
def f20r10 : List I := [⟨(some 43), none, [], false, .mv (.t 5)⟩,
  ⟨(some 44), none, [], false, .fad 3 (.t 2)⟩,
  ⟨none, none, [], false, .st 1 (.t 44) (.t 43)⟩]
def f20r11 : List I := [⟨(some 45), none, [], false, .ld true 4 (.t 2)⟩,
  ⟨none, none, [], false, .st 4 (.t 4) (.t 45)⟩]
def f20 : Fn := ⟨[0, 1, 2, 4, 5, 7, 12, 13, 14, 15, 37], (.seq (.reg false f20r0) (.seq (.reg false f20r1) (.seq (.reg false f20r2) (.seq (.seq (.reg false f20r3) (.block 0 (.loop f20l0))) (.seq (.reg false f20r10) (.seq (.reg false f20r11) .ret)))))), [.cell 4 true 4]⟩
/-! 21: stolon/db.Ports -/
def f21r0 : List I := [⟨(some 3), none, [], false, .box (.t 0)⟩,
  ⟨(some 6), none, [], false, .mv (.c (nilS))⟩]
def f21r1 : List I := [⟨(some 7), none, [], false, .mv (.c (nilS))⟩]
def f21r2 : List I := [⟨(some 10), none, [], false, .fad 3 (.t 3)⟩,
  ⟨(some 11), none, [], false, .ld false 1 (.t 10)⟩,
  ⟨(some 12), none, [], false, .len (.t 11)⟩,
  ⟨(some 13), none, [], false, .mv (.c (.int .i64 0))⟩]
def f21r3 : List I := [⟨(some 14), none, [], false, .bin .lss .other (.t 13) (.t 12)⟩]
def f21r4 : List I := [⟨(some 15), none, [], false, .iad 7 none (.t 11) (.t 13)⟩,
  ⟨(some 16), none, [], false, .ld true 7 (.t 15)⟩,
  ⟨(some 9), none, [], false, .alloc [.int .i64 0, .int .i64 0, .int .i64 0, .int .u32 0, .bool false, .int .i64 0, nilS]⟩,
  ⟨none, none, [], false, .st 7 (.t 9) (.t 16)⟩]
def f21r5 : List I := [⟨(some 17), none, [], false, .fad 3 (.t 9)⟩,
  ⟨(some 18), none, [], false, .fad 0 (.t 17)⟩,
  ⟨(some 19), none, [], false, .ld false 1 (.t 18)⟩,
  ⟨(some 20), none, [], false, .mv (.t 1)⟩,
  ⟨(some 21), none, [], false, .bin .eql .other (.t 19) (.t 20)⟩,
  ⟨(some 22), none, [], false, .mv (.t 21)⟩,
  ⟨(some 23), (some (22, true)), [], false, .fad 3 (.t 9)⟩,
  ⟨(some 24), (some (22, true)), [], false, .ld true 4 (.t 23)⟩,
  ⟨(some 25), (some (22, true)), [], false, .mv (.t 2)⟩,
  ⟨(some 26), (some (22, true)), [], false, .call 37 [(.t 24), (.t 25)]⟩,
  ⟨(some 27), none, [], false, .pick (.t 22) (.t 26) (.c (.bool false))⟩]
def f21r6 : List I := [⟨(some 28), none, [], false, .mv (.t 7)⟩,
  ⟨(some 29), none, [], false, .fad 0 (.t 9)⟩,
  ⟨(some 30), none, [], false, .ld false 1 (.t 29)⟩,
  ⟨(some 31), none, [], false, .bslice 1 1 [.int .i64 0] [(0, 1, (.t 30))]⟩,
  ⟨(some 32), none, [], false, .app 1 8 (.t 28) (.t 31)⟩,
  ⟨(some 7), none, [], false, .mv (.t 32)⟩]
def f21r7 : List I := [⟨(some 33), none, [], false, .bin .add .other (.t 13) (.c (.int .i64 1))⟩,
  ⟨(some 13), none, [], false, .mv (.t 33)⟩]
def f21l0 : C := (.seq (.reg false f21r3) (.seq (.cond (.t 14) .skip (.exit 0)) (.seq (.block 1 (.seq (.reg false f21r4) (.seq (.reg false f21r5) (.cond (.t 27) (.reg false f21r6) .skip)))) (.reg false f21r7))))
def f21r8 : List I := [⟨(some 34), none, [], false, .mv (.t 7)⟩,
  ⟨(some 6), none, [], false, .mv (.t 34)⟩]
def f21 : Fn := ⟨[0, 1, 2, 3, 6, 7, 9, 11, 12, 13, 14, 27], (.seq (.reg false f21r0) (.seq (.reg false f21r1) (.seq (.seq (.reg false f21r2) (.block 0 (.loop f21l0))) (.seq (.reg false f21r8) .ret)))), [.tmp 6]⟩
/-! 22: stolon/db.New -/
def f22r0 : List I := [⟨(some 2), none, [], false, .box (.t 0)⟩,
  ⟨(some 4), none, [], false, .alloc [.int .i64 0, .int .i64 0, .int .i64 0, nilS]⟩,
  ⟨(some 5), none, [], false, .mv (.c (.int .i64 0))⟩]
def f22r1 : List I := [⟨(some 7), none, [], false, .ld true 2 (.t 2)⟩,
  ⟨(some 8), none, [], false, .mv (.t 1)⟩,
  ⟨(some 9), none, [], false, .build [.int .i64 0, .int .i64 0, .int .i64 0, nilS] [(0, 2, (.t 7)), (2, 1, (.t 8))]⟩,
  ⟨(some 6), none, [], false, .alloc [.int .i64 0, .int .i64 0, .int .i64 0, nilS]⟩,
  ⟨none, none, [], false, .st 4 (.t 6) (.t 9)⟩]
def f22r2 : List I := [⟨(some 10), none, [], false, .ld true 4 (.t 6)⟩,
  ⟨(some 11), none, [], false, .call 23 [(.t 10)]⟩,
  ⟨(some 12), none, [], false, .un .not (.t 11)⟩]
def f22r3 : List I := [⟨(some 13), none, [], false, .build [.int .i64 0, .int .i64 0, .int .i64 0, nilS] []⟩,
  ⟨none, none, [], false, .st 4 (.t 4) (.t 13)⟩,
  ⟨(some 5), none, [], false, .mv (.c (.int .i64 1))⟩]
def f22r4 : List I := [⟨(some 14), none, [], false, .ld true 4 (.t 6)⟩,
  ⟨none, none, [], false, .st 4 (.t 4) (.t 14)⟩,
  ⟨(some 5), none, [], false, .mv (.c (.int .i64 0))⟩]
def f22 : Fn := ⟨[0, 1, 2, 4, 5, 6, 12], (.seq (.reg false f22r0) (.seq (.reg false f22r1) (.seq (.seq (.reg false f22r2) (.cond (.t 12) (.seq (.reg false f22r3) .ret) .skip)) (.seq (.reg false f22r4) .ret)))), [.cell 4 true 4, .tmp 5]⟩
/-! 23: stolon/db.Right -/
def f23r0 : List I := [⟨(some 1), none, [], false, .box (.t 0)⟩,
  ⟨(some 2), none, [], false, .mv (.c (.bool false))⟩]
def f23r1 : List I := [⟨(some 5), none, [], false, .fad 0 (.t 1)⟩,
  ⟨(some 6), none, [], false, .ld true 2 (.t 5)⟩,
  ⟨(some 7), none, [], false, .call 40 [(.t 6)]⟩,
  ⟨(some 8), none, [], false, .un .not (.t 7)⟩,
  ⟨(some 9), none, [], false, .mv (.t 8)⟩,
  ⟨(some 10), (some (9, false)), [], false, .fad 2 (.t 1)⟩,
  ⟨(some 11), (some (9, false)), [], false, .ld false 1 (.t 10)⟩,
  ⟨(some 12), (some (9, false)), [], false, .bin .lss .other (.t 11) (.c (.int .i64 0))⟩,
  ⟨(some 13), none, [], false, .pick (.t 9) (.c (.bool true)) (.t 12)⟩,
  ⟨(some 14), none, [], false, .mv (.t 13)⟩,
  ⟨(some 15), (some (14, false)), [], false, .fad 2 (.t 1)⟩,
  ⟨(some 16), (some (14, false)), [], false, .ld false 1 (.t 15)⟩,
  ⟨(some 17), (some (14, false)), [], false, .bin .gtr .other (.t 16) (.c (.int .i64 256))⟩,
  ⟨(some 18), none, [], false, .pick (.t 14) (.c (.bool true)) (.t 17)⟩,
  ⟨(some 19), none, [], false, .mv (.t 18)⟩,
  ⟨(some 20), (some (19, false)), [], false, .fad 3 (.t 1)⟩,
  ⟨(some 21), (some (19, false)), [], false, .ld false 1 (.t 20)⟩,
  ⟨(some 22), (some (19, false)), [], false, .len (.t 21)⟩,
  ⟨(some 23), (some (19, false)), [], false, .fad 2 (.t 1)⟩,
  ⟨(some 24), (some (19, false)), [], false, .ld false 1 (.t 23)⟩,
  ⟨(some 25), (some (19, false)), [], false, .bin .gtr .other (.t 22) (.t 24)⟩,
  ⟨(some 26), none, [], false, .pick (.t 19) (.c (.bool true)) (.t 25)⟩]
def f23r2 : List I := [⟨(some 2), none, [], false, .mv (.c (.bool false))⟩]
def f23r3 : List I := [⟨(some 27), none, [], false, .fad 3 (.t 1)⟩,
  ⟨(some 28), none, [], false, .ld false 1 (.t 27)⟩,
  ⟨(some 29), none, [], false, .len (.t 28)⟩,
  ⟨(some 30), none, [], false, .mv (.c (.int .i64 0))⟩]
def f23r4 : List I := [⟨(some 31), none, [], false, .bin .lss .other (.t 30) (.t 29)⟩]
def f23r5 : List I := [⟨(some 32), none, [], false, .mv (.t 30)⟩,
  ⟨(some 33), none, [], false, .iad 7 none (.t 28) (.t 30)⟩,
  ⟨(some 34), none, [], false, .ld true 7 (.t 33)⟩,
  ⟨(some 4), none, [], false, .alloc [.int .i64 0, .int .i64 0, .int .i64 0, .int .u32 0, .bool false, .int .i64 0, nilS]⟩,
  ⟨(some 3), none, [], false, .mv (.t 32)⟩,
  ⟨none, none, [], false, .st 7 (.t 4) (.t 34)⟩]
def f23r6 : List I := [⟨(some 35), none, [], false, .ld true 7 (.t 4)⟩,
  ⟨(some 36), none, [], false, .call 41 [(.t 35)]⟩,
  ⟨(some 37), none, [], false, .un .not (.t 36)⟩,
  ⟨(some 38), none, [], false, .mv (.t 37)⟩,
  ⟨(some 39), (some (38, false)), [], false, .mv (.t 3)⟩,
  ⟨(some 40), (some (38, false)), [], false, .bin .gtr .other (.t 39) (.c (.int .i64 0))⟩,
  ⟨(some 41), (some (38, false)), [], false, .mv (.t 40)⟩,
  ⟨(some 42), (some (41, true)), [], false, .fad 3 (.t 1)⟩,
  ⟨(some 43), (some (41, true)), [], false, .ld false 1 (.t 42)⟩,
  ⟨(some 44), (some (41, true)), [], false, .mv (.t 3)⟩,
  ⟨(some 45), (some (41, true)), [], false, .bin .sub .other (.t 44) (.c (.int .i64 1))⟩,
  ⟨(some 46), (some (41, true)), [], false, .iad 7 none (.t 43) (.t 45)⟩,
  ⟨(some 47), (some (41, true)), [], false, .ld true 7 (.t 46)⟩,
  ⟨(some 48), (some (41, true)), [], false, .call 42 [(.t 47)]⟩,
  ⟨(some 49), (some (41, true)), [], false, .ld true 7 (.t 4)⟩,
  ⟨(some 50), (some (41, true)), [], false, .call 42 [(.t 49)]⟩,
  ⟨(some 51), (some (41, true)), [], false, .bin .eql (.plain [some .i64, some .u32]) (.t 48) (.t 50)⟩,
  ⟨(some 52), (some (41, true)), [], false, .mv (.t 51)⟩,
  ⟨(some 53), (some (52, false)), [], false, .fad 3 (.t 1)⟩,
  ⟨(some 54), (some (52, false)), [], false, .ld false 1 (.t 53)⟩,
  ⟨(some 55), (some (52, false)), [], false, .mv (.t 3)⟩,
  ⟨(some 56), (some (52, false)), [], false, .bin .sub .other (.t 55) (.c (.int .i64 1))⟩,
  ⟨(some 57), (some (52, false)), [], false, .iad 7 none (.t 54) (.t 56)⟩,
  ⟨(some 58), (some (52, false)), [], false, .ld true 7 (.t 57)⟩,
  ⟨(some 59), (some (52, false)), [], false, .ld true 7 (.t 4)⟩,
  ⟨(some 60), (some (52, false)), [], false, .call 42 [(.t 59)]⟩,
  ⟨(some 61), (some (52, false)), [], false, .call 43 [(.t 58), (.t 60)]⟩,
  ⟨(some 62), (some (52, false)), [], false, .bin .gtr .other (.t 61) (.c (.int .i64 0))⟩,
  ⟨(some 63), (some (41, true)), [], false, .pick (.t 52) (.c (.bool true)) (.t 62)⟩,
  ⟨(some 64), (some (38, false)), [], false, .pick (.t 41) (.t 63) (.c (.bool false))⟩,
  ⟨(some 65), none, [], false, .pick (.t 38) (.c (.bool true)) (.t 64)⟩]
def f23r7 : List I := [⟨(some 2), none, [], false, .mv (.c (.bool false))⟩]
def f23r8 : List I := [⟨(some 66), none, [], false, .bin .add .other (.t 30) (.c (.int .i64 1))⟩,
  ⟨(some 30), none, [], false, .mv (.t 66)⟩]
def f23l0 : C := (.seq (.reg false f23r4) (.seq (.cond (.t 31) .skip (.exit 0)) (.seq (.block 1 (.seq (.reg false f23r5) (.seq (.reg true f23r6) (.cond (.t 65) (.seq (.reg false f23r7) .ret) .skip)))) (.reg false f23r8))))
def f23r9 : List I := [⟨(some 2), none, [], false, .mv (.c (.bool true))⟩]
def f23 : Fn := ⟨[0, 1, 2, 3, 4, 26, 28, 29, 30, 31, 65], (.seq (.reg false f23r0) (.seq (.seq (.reg false f23r1) (.cond (.t 26) (.seq (.reg false f23r2) .ret) .skip)) (.seq (.seq (.reg false f23r3) (.block 0 (.loop f23l0))) (.seq (.reg false f23r9) .ret)))), [.tmp 2]⟩
/-! 24: stolon/stolonref08.May -/
def f24r0 : List I := [⟨(some 1), none, [], false, .box (.t 0)⟩,
  ⟨(some 2), none, [], false, .mv (.c (.bool false))⟩]
def f24r1 : List I := [⟨(some 3), none, [], false, .fad 1 (.t 1)⟩,
  ⟨(some 4), none, [], false, .ld false 1 (.t 3)⟩,
  ⟨(some 5), none, [], false, .bin .geq .other (.t 4) (.c (.int .i64 1))⟩,
  ⟨(some 6), none, [], false, .mv (.t 5)⟩,
  ⟨(some 7), (some (6, true)), [], false, .fad 0 (.t 1)⟩,
  ⟨(some 8), (some (6, true)), [], false, .ld false 1 (.t 7)⟩,
  ⟨(some 9), (some (6, true)), [], false, .fad 1 (.t 1)⟩,
  ⟨(some 10), (some (6, true)), [], false, .ld false 1 (.t 9)⟩,
  ⟨(some 11), (some (6, true)), [], false, .bin .geq .other (.t 8) (.t 10)⟩,
  ⟨(some 12), none, [], false, .pick (.t 6) (.t 11) (.c (.bool false))⟩,
  ⟨(some 13), none, [], false, .mv (.t 12)⟩,
  ⟨(some 14), (some (13, true)), [], false, .fad 0 (.t 1)⟩,
  ⟨(some 15), (some (13, true)), [], false, .ld false 1 (.t 14)⟩,
  ⟨(some 16), (some (13, true)), [], false, .bin .leq .other (.t 15) (.c (.int .i64 1000000))⟩,
  ⟨(some 17), none, [], false, .pick (.t 13) (.t 16) (.c (.bool false))⟩,
  ⟨(some 2), none, [], false, .mv (.t 17)⟩]
def f24 : Fn := ⟨[0, 1, 2], (.seq (.reg false f24r0) (.seq (.reg false f24r1) .ret)), [.tmp 2]⟩
/-! 25: stolon/stolonref08.Some -/
def f25r0 : List I := [⟨(some 1), none, [], false, .box (.t 0)⟩,
  ⟨(some 2), none, [], false, .mv (.c (.bool false))⟩]
def f25r1 : List I := [⟨(some 3), none, [], false, .fad 1 (.t 1)⟩,
  ⟨(some 4), none, [], false, .ld false 1 (.t 3)⟩,
  ⟨(some 5), none, [], false, .mv (.t 4)⟩,
  ⟨(some 6), (some (5, false)), [], false, .fad 3 (.t 1)⟩,
  ⟨(some 7), (some (5, false)), [], false, .ld false 1 (.t 6)⟩,
  ⟨(some 8), (some (5, false)), [], false, .len (.t 7)⟩,
  ⟨(some 9), (some (5, false)), [], false, .bin .gtr .other (.t 8) (.c (.int .i64 0))⟩,
  ⟨(some 10), none, [], false, .pick (.t 5) (.c (.bool true)) (.t 9)⟩,
  ⟨(some 2), none, [], false, .mv (.t 10)⟩]
def f25 : Fn := ⟨[0, 1, 2], (.seq (.reg false f25r0) (.seq (.reg false f25r1) .ret)), [.tmp 2]⟩
/-! 26: stolon/stolonref01.Asked -/
def f26r0 : List I := [⟨(some 2), none, [], false, .mv (.c (.bool false))⟩]
def f26r1 : List I := [⟨(some 3), none, [], false, .mv (.t 0)⟩,
  ⟨(some 4), none, [], false, .bin .geq .other (.t 3) (.c (.int .u32 3758096640))⟩,
  ⟨(some 5), none, [], false, .mv (.t 4)⟩,
  ⟨(some 6), (some (5, true)), [], false, .mv (.t 0)⟩,
  ⟨(some 7), (some (5, true)), [], false, .bin .leq .other (.t 6) (.c (.int .u32 4026531839))⟩,
  ⟨(some 8), none, [], false, .pick (.t 5) (.t 7) (.c (.bool false))⟩,
  ⟨(some 2), none, [], false, .mv (.t 8)⟩]
def f26 : Fn := ⟨[0, 2], (.seq (.reg false f26r0) (.seq (.reg false f26r1) .ret)), [.tmp 2]⟩
/-! 27: stolon/db.isPort -/
def f27r0 : List I := [⟨(some 2), none, [], false, .mv (.c (.bool false))⟩]
def f27r1 : List I := [⟨(some 3), none, [], false, .mv (.t 0)⟩,
  ⟨(some 4), none, [], false, .bin .geq .other (.t 3) (.c (.int .i64 0))⟩,
  ⟨(some 5), none, [], false, .mv (.t 4)⟩,
  ⟨(some 6), (some (5, true)), [], false, .mv (.t 0)⟩,
  ⟨(some 7), (some (5, true)), [], false, .bin .lss .other (.t 6) (.c (.int .i64 64))⟩,
  ⟨(some 8), none, [], false, .pick (.t 5) (.t 7) (.c (.bool false))⟩,
  ⟨(some 2), none, [], false, .mv (.t 8)⟩]
def f27 : Fn := ⟨[0, 2], (.seq (.reg false f27r0) (.seq (.reg false f27r1) .ret)), [.tmp 2]⟩
/-! 28: stolon/db.Hear$1 -/
def f28 : Fn := ⟨[], .skip, []⟩
/-! 29: (*stolon/db.work).hear -/
def f29r0 : List I := [⟨(some 4), none, [], false, .box (.t 1)⟩]
def f29r1 : List I := [⟨(some 14), none, [], false, .mv (.t 0)⟩,
  ⟨(some 15), none, [], false, .nck (.t 14)⟩,
  ⟨(some 16), none, [], false, .fad 4 (.t 15)⟩,
  ⟨(some 17), none, [false], false, .ld false 1 (.t 16)⟩,
  ⟨(some 18), none, [], false, .fad 1 (.t 4)⟩,
  ⟨(some 19), none, [false], false, .ld false 1 (.t 18)⟩,
  ⟨(some 20), none, [], false, .build [.int .u32 0, .bool false, .int .i64 0, nilS] [(0, 1, (.t 19))]⟩,
  ⟨(some 21), none, [], false, .build [.int .i64 0, .int .i64 0, .int .i64 0, .int .u32 0, .bool false, .int .i64 0, nilS] [(0, 1, (.t 17)), (3, 4, (.t 20))]⟩,
  ⟨(some 6), none, [], false, .alloc [.int .i64 0, .int .i64 0, .int .i64 0, .int .u32 0, .bool false, .int .i64 0, nilS]⟩,
  ⟨none, none, [], false, .st 7 (.t 6) (.t 21)⟩]
def f29r2 : List I := [⟨(some 23), none, [], false, .mv (.t 0)⟩,
  ⟨(some 24), none, [], false, .nck (.t 23)⟩,
  ⟨(some 25), none, [], false, .fad 0 (.t 24)⟩,
  ⟨(some 26), none, [], false, .ld true 4 (.t 25)⟩,
  ⟨(some 27), none, [], false, .ld true 7 (.t 6)⟩,
  ⟨(some 28), none, [], false, .call 42 [(.t 27)]⟩,
  ⟨(some 29), none, [], false, .call 36 [(.t 26), (.t 28)]⟩,
  ⟨(some 22), none, [], false, .mv (.t 29)⟩,
  ⟨(some 30), none, [], false, .ext 0 (.t 22)⟩,
  ⟨(some 31), none, [], false, .ext 1 (.t 22)⟩,
  ⟨(some 7), none, [], false, .mv (.t 30)⟩,
  ⟨(some 8), none, [], false, .mv (.t 31)⟩]
def f29r3 : List I := [⟨(some 32), none, [], false, .mv (.t 8)⟩]
def f29r4 : List I := [⟨(some 33), none, [], false, .mv (.t 0)⟩,
  ⟨(some 34), none, [], false, .nck (.t 33)⟩,
  ⟨(some 35), none, [], false, .fad 0 (.t 34)⟩,
  ⟨(some 36), none, [], false, .fad 3 (.t 35)⟩,
  ⟨(some 37), none, [], false, .ld false 1 (.t 36)⟩,
  ⟨(some 38), none, [], false, .mv (.t 7)⟩,
  ⟨(some 39), none, [], false, .iad 7 none (.t 37) (.t 38)⟩,
  ⟨(some 40), none, [], false, .ld true 7 (.t 39)⟩,
  ⟨none, none, [], false, .st 7 (.t 6) (.t 40)⟩]
def f29r5 : List I := [⟨(some 42), none, [], false, .mv (.t 0)⟩,
  ⟨(some 43), none, [], false, .nck (.t 42)⟩,
  ⟨(some 44), none, [], false, .fad 0 (.t 43)⟩,
  ⟨(some 45), none, [], false, .fad 0 (.t 44)⟩,
  ⟨(some 46), none, [false], false, .ld true 2 (.t 45)⟩,
  ⟨(some 47), none, [false], false, .ld true 7 (.t 6)⟩,
  ⟨(some 48), none, [false], false, .ld true 3 (.t 4)⟩,
  ⟨(some 49), none, [false], false, .call 44 [(.t 46), (.t 47), (.t 48)]⟩,
  ⟨(some 41), none, [], false, .mv (.t 49)⟩,
  ⟨(some 50), none, [], false, .ext 0 (.t 41)⟩,
  ⟨(some 9), none, [], false, .alloc [.int .u32 0, .bool false, .int .i64 0, nilS]⟩,
  ⟨none, none, [], false, .st 4 (.t 9) (.t 50)⟩,
  ⟨(some 51), none, [], false, .ext 1 (.t 41)⟩,
  ⟨(some 52), none, [], false, .ext 2 (.t 41)⟩,
  ⟨(some 10), none, [], false, .mv (.t 51)⟩,
  ⟨(some 11), none, [], false, .mv (.t 52)⟩]
def f29r6 : List I := [⟨(some 53), none, [], false, .mv (.t 11)⟩,
  ⟨(some 54), none, [], false, .bin .neq .other (.t 53) (.c (.int .i64 0))⟩,
  ⟨(some 55), none, [], false, .mv (.t 54)⟩,
  ⟨(some 56), (some (55, false)), [], false, .mv (.t 8)⟩,
  ⟨(some 57), (some (55, false)), [], false, .un .not (.t 56)⟩,
  ⟨(some 58), (some (55, false)), [], false, .mv (.t 57)⟩,
  ⟨(some 59), (some (58, true)), [], false, .ld true 4 (.t 9)⟩,
  ⟨(some 60), (some (58, true)), [], false, .call 39 [(.t 59)]⟩,
  ⟨(some 61), (some (55, false)), [], false, .pick (.t 58) (.t 60) (.c (.bool false))⟩,
  ⟨(some 62), (some (55, false)), [], false, .mv (.t 61)⟩,
  ⟨(some 63), (some (62, true)), [], false, .mv (.t 0)⟩,
  ⟨(some 64), (some (62, true)), [], false, .nck (.t 63)⟩,
  ⟨(some 65), (some (62, true)), [], false, .fad 0 (.t 64)⟩,
  ⟨(some 66), (some (62, true)), [], false, .fad 3 (.t 65)⟩,
  ⟨(some 67), (some (62, true)), [], false, .ld false 1 (.t 66)⟩,
  ⟨(some 68), (some (62, true)), [], false, .len (.t 67)⟩,
  ⟨(some 69), (some (62, true)), [], false, .mv (.t 0)⟩,
  ⟨(some 70), (some (62, true)), [], false, .nck (.t 69)⟩,
  ⟨(some 71), (some (62, true)), [], false, .fad 0 (.t 70)⟩,
  ⟨(some 72), (some (62, true)), [], false, .fad 2 (.t 71)⟩,
  ⟨(some 73), (some (62, true)), [], false, .ld false 1 (.t 72)⟩,
  ⟨(some 74), (some (62, true)), [], false, .bin .geq .other (.t 68) (.t 73)⟩,
  ⟨(some 75), (some (55, false)), [], false, .pick (.t 62) (.t 74) (.c (.bool false))⟩,
  ⟨(some 76), none, [], false, .pick (.t 55) (.c (.bool true)) (.t 75)⟩]
def f29r7 : List I := [⟨(some 77), none, [], false, .mv (.t 0)⟩,
  ⟨(some 78), none, [], false, .nck (.t 77)⟩,
  ⟨(some 79), none, [], false, .fad 6 (.t 78)⟩,
  ⟨(some 80), none, [], false, .call 45 [(.t 79), (.c (.int .i64 1))]⟩]
def f29r8 : List I := [⟨(some 81), none, [], false, .ld true 4 (.t 9)⟩,
  ⟨(some 82), none, [], false, .fad 3 (.t 6)⟩,
  ⟨none, none, [], false, .st 4 (.t 82) (.t 81)⟩]
def f29r9 : List I := [⟨(some 83), none, [], false, .mv (.t 2)⟩,
  ⟨(some 84), none, [], false, .ccall (.t 83) [(.t 6)]⟩]
def f29r10 : List I := [⟨(some 85), none, [], false, .mv (.t 0)⟩,
  ⟨(some 86), none, [], false, .ld true 7 (.t 6)⟩,
  ⟨(some 87), none, [], false, .call 46 [(.t 85), (.t 86)]⟩]
def f29r11 : List I := [⟨(some 88), none, [], false, .mv (.t 10)⟩,
  ⟨(some 89), none, [], false, .len (.t 88)⟩,
  ⟨(some 90), none, [], false, .mv (.c (.int .i64 0))⟩]
def f29r12 : List I := [⟨(some 91), none, [], false, .bin .lss .other (.t 90) (.t 89)⟩]
def f29r13 : List I := [⟨(some 92), none, [], false, .iad 2 none (.t 88) (.t 90)⟩,
  ⟨(some 93), none, [], false, .ld true 2 (.t 92)⟩,
  ⟨(some 13), none, [], false, .alloc [.int .u32 0, nilS]⟩,
  ⟨none, none, [], false, .st 2 (.t 13) (.t 93)⟩]
def f29r14 : List I := [⟨(some 95), none, [], false, .mv (.t 0)⟩,
  ⟨(some 96), none, [], false, .nck (.t 95)⟩,
  ⟨(some 97), none, [], false, .fad 5 (.t 96)⟩,
  ⟨(some 98), none, [false], false, .ld false 1 (.t 97)⟩,
  ⟨(some 99), none, [], false, .mv (.t 0)⟩,
  ⟨(some 100), none, [], false, .nck (.t 99)⟩,
  ⟨(some 101), none, [], false, .fad 4 (.t 100)⟩,
  ⟨(some 102), none, [false], false, .ld false 1 (.t 101)⟩,
  ⟨(some 103), none, [false], false, .ld true 2 (.t 13)⟩,
  ⟨(some 104), none, [], false, .build [.int .i64 0, .int .u32 0, nilS] [(0, 1, (.t 102)), (1, 2, (.t 103))]⟩,
  ⟨(some 105), none, [], false, .bslice 3 1 [.int .i64 0, .int .u32 0, nilS] [(0, 3, (.t 104))]⟩,
  ⟨(some 106), none, [], false, .app 3 40 (.t 98) (.t 105)⟩,
  ⟨(some 94), none, [], false, .mv (.t 0)⟩,
  ⟨(some 107), none, [], false, .nck (.t 94)⟩,
  ⟨(some 108), none, [], false, .fad 5 (.t 107)⟩,
  ⟨none, none, [], false, .st 1 (.t 108) (.t 106)⟩]
def f29r15 : List I := [⟨(some 109), none, [], false, .bin .add .other (.t 90) (.c (.int .i64 1))⟩,
  ⟨(some 90), none, [], false, .mv (.t 109)⟩]
def f29l0 : C := (.seq (.reg false f29r12) (.seq (.cond (.t 91) .skip (.exit 0)) (.seq (.block 1 (.seq (.reg false f29r13) (.reg true f29r14))) (.reg false f29r15))))
def f29 : Fn := ⟨[0, 1, 2, 4, 6, 7, 8, 9, 10, 11, 13, 32, 76, 88, 89, 90, 91], (.seq (.reg false f29r0) (.seq (.reg true f29r1) (.seq (.reg true f29r2) (.seq (.seq (.reg false f29r3) (.cond (.t 32) (.reg false f29r4) .skip)) (.seq (.reg true f29r5) (.seq (.seq (.reg true f29r6) (.cond (.t 76) (.seq (.reg false f29r7) .ret) .skip)) (.seq (.reg false f29r8) (.seq (.reg false f29r9) (.seq (.reg false f29r10) (.seq (.reg false f29r11) (.block 0 (.loop f29l0)))))))))))), []⟩
/-! 30: stolon/db.Hear$2 -/
def f30r0 : List I := [⟨(some 3), none, [], false, .mv (.t 0)⟩,
  ⟨(some 4), none, [], false, .fad 0 (.t 1)⟩,
  ⟨(some 5), none, [], false, .fad 0 (.t 4)⟩,
  ⟨(some 6), none, [], false, .ld false 1 (.t 5)⟩,
  ⟨(some 7), none, [], false, .nck (.t 3)⟩,
  ⟨(some 8), none, [], false, .fad 1 (.t 7)⟩,
  ⟨none, none, [], false, .st 1 (.t 8) (.t 6)⟩]
def f30 : Fn := ⟨[0, 1], (.reg false f30r0), []⟩
/-! 31: stolon/db.Hear$3 -/
def f31r0 : List I := [⟨(some 3), none, [], false, .mv (.t 0)⟩,
  ⟨(some 4), none, [], false, .fad 0 (.t 1)⟩,
  ⟨(some 5), none, [], false, .fad 0 (.t 4)⟩,
  ⟨(some 6), none, [], false, .ld false 1 (.t 5)⟩,
  ⟨(some 7), none, [], false, .nck (.t 3)⟩,
  ⟨(some 8), none, [], false, .fad 2 (.t 7)⟩,
  ⟨none, none, [], false, .st 1 (.t 8) (.t 6)⟩]
def f31 : Fn := ⟨[0, 1], (.reg false f31r0), []⟩
/-! 32: (*sync/atomic.Int64).Load -/
def f32r0 : List I := [⟨(some 2), none, [], false, .mv (.c (.int .i64 0))⟩]
def f32r1 : List I := [⟨(some 3), none, [], false, .mv (.t 0)⟩,
  ⟨(some 4), none, [], false, .nck (.t 3)⟩,
  ⟨(some 5), none, [], false, .fad 0 (.t 4)⟩,
  ⟨(some 6), none, [], false, .call 47 [(.t 5)]⟩,
  ⟨(some 2), none, [], false, .mv (.t 6)⟩]
def f32 : Fn := ⟨[0, 2], (.seq (.reg false f32r0) (.seq (.reg false f32r1) .ret)), [.tmp 2]⟩
/-! 33: stolon/stolonref09.record -/
def f33r0 : List I := [⟨(some 7), none, [], false, .box (.t 0)⟩,
  ⟨(some 14), none, [], false, .alloc [.int .i64 0, .int .i64 0, .int .i64 0, nilS]⟩,
  ⟨(some 15), none, [], false, .mv (.c (nilS))⟩,
  ⟨(some 16), none, [], false, .mv (.c (.bool false))⟩]
def f33r1 : List I := [⟨(some 26), none, [], false, .ld true 4 (.t 7)⟩,
  ⟨(some 27), none, [], false, .mv (.t 1)⟩,
  ⟨(some 28), none, [], false, .mv (.t 3)⟩,
  ⟨(some 29), none, [], false, .call 48 [(.t 26), (.t 27), (.t 28)]⟩,
  ⟨(some 25), none, [], false, .mv (.t 29)⟩,
  ⟨(some 30), none, [], false, .ext 0 (.t 25)⟩,
  ⟨(some 31), none, [], false, .ext 1 (.t 25)⟩,
  ⟨(some 17), none, [], false, .alloc [.int .i64 0, .int .i64 0, .int .i64 0, .int .u32 0, .bool false, .int .i64 0, nilS]⟩,
  ⟨none, none, [], false, .st 7 (.t 17) (.t 30)⟩,
  ⟨(some 18), none, [], false, .mv (.t 31)⟩]
def f33r2 : List I := [⟨(some 32), none, [], false, .fad 1 (.t 17)⟩,
  ⟨(some 33), none, [], false, .ld false 1 (.t 32)⟩,
  ⟨(some 34), none, [], false, .bin .gtr .other (.t 33) (.c (.int .i64 0))⟩,
  ⟨(some 35), none, [], false, .mv (.t 34)⟩,
  ⟨(some 36), (some (35, false)), [], false, .fad 2 (.t 17)⟩,
  ⟨(some 37), (some (35, false)), [], false, .ld false 1 (.t 36)⟩,
  ⟨(some 38), (some (35, false)), [], false, .bin .gtr .other (.t 37) (.c (.int .i64 0))⟩,
  ⟨(some 39), none, [], false, .pick (.t 35) (.c (.bool true)) (.t 38)⟩,
  ⟨(some 19), none, [], false, .mv (.t 39)⟩]
def f33r3 : List I := [⟨(some 40), none, [], false, .fad 3 (.t 17)⟩,
  ⟨(some 41), none, [], false, .ld true 4 (.t 40)⟩,
  ⟨(some 20), none, [], false, .alloc [.int .u32 0, .bool false, .int .i64 0, nilS]⟩,
  ⟨none, none, [], false, .st 4 (.t 20) (.t 41)⟩]
def f33r4 : List I := [⟨(some 21), none, [], false, .mv (.c (nilS))⟩]
def f33r5 : List I := [⟨(some 22), none, [], false, .mv (.c (.int .i64 0))⟩]
def f33r6 : List I := [⟨(some 42), none, [], false, .mv (.t 19)⟩,
  ⟨(some 43), none, [], false, .mv (.t 42)⟩,
  ⟨(some 44), (some (43, true)), [], false, .mv (.t 2)⟩,
  ⟨(some 45), (some (43, true)), [], false, .bin .eql .other (.t 44) (.c (.int .u8 4))⟩,
  ⟨(some 46), none, [], false, .pick (.t 43) (.t 45) (.c (.bool false))⟩]
def f33r7 : List I := [⟨(some 4), none, [], false, .mv (.c (nilS))⟩]
def f33r8 : List I := [⟨(some 47), none, [], false, .fad 1 (.t 17)⟩,
  ⟨(some 48), none, [], false, .ld false 1 (.t 47)⟩,
  ⟨(some 49), none, [], false, .bin .gtr .other (.t 48) (.c (.int .i64 0))⟩,
  ⟨(some 50), none, [], false, .mv (.t 49)⟩,
  ⟨(some 51), (some (50, true)), [], false, .mv (.t 2)⟩,
  ⟨(some 52), (some (50, true)), [], false, .bin .eql .other (.t 51) (.c (.int .u8 3))⟩,
  ⟨(some 53), none, [], false, .pick (.t 50) (.t 52) (.c (.bool false))⟩,
  ⟨(some 54), none, [], false, .un .not (.t 53)⟩,
  ⟨(some 55), none, [], false, .mv (.t 54)⟩,
  ⟨(some 56), (some (55, true)), [], false, .mv (.t 19)⟩,
  ⟨(some 57), (some (55, true)), [], false, .mv (.t 56)⟩,
  ⟨(some 58), (some (57, true)), [], false, .mv (.t 2)⟩,
  ⟨(some 59), (some (57, true)), [], false, .bin .eql .other (.t 58) (.c (.int .u8 6))⟩,
  ⟨(some 60), (some (55, true)), [], false, .pick (.t 57) (.t 59) (.c (.bool false))⟩,
  ⟨(some 61), (some (55, true)), [], false, .un .not (.t 60)⟩,
  ⟨(some 62), none, [], false, .pick (.t 55) (.t 61) (.c (.bool false))⟩]
def f33r9 : List I := [⟨(some 64), none, [], false, .fad 0 (.t 7)⟩,
  ⟨(some 65), none, [], false, .ld true 2 (.t 64)⟩,
  ⟨(some 66), none, [], false, .fad 3 (.t 17)⟩,
  ⟨(some 67), none, [], false, .ld true 4 (.t 66)⟩,
  ⟨(some 68), none, [], false, .mv (.t 2)⟩,
  ⟨(some 69), none, [], false, .mv (.t 4)⟩,
  ⟨(some 70), none, [], false, .call 49 [(.t 65), (.t 67), (.t 68), (.t 69)]⟩,
  ⟨(some 63), none, [], false, .mv (.t 70)⟩,
  ⟨(some 71), none, [], false, .ext 0 (.t 63)⟩,
  ⟨(some 72), none, [], false, .ext 1 (.t 63)⟩,
  ⟨(some 73), none, [], false, .ext 2 (.t 63)⟩,
  ⟨none, none, [], false, .st 4 (.t 20) (.t 71)⟩,
  ⟨(some 21), none, [], false, .mv (.t 72)⟩,
  ⟨(some 22), none, [], false, .mv (.t 73)⟩]
def f33r10 : List I := [⟨(some 74), none, [], false, .mv (.t 22)⟩,
  ⟨(some 75), none, [], false, .bin .neq .other (.t 74) (.c (.int .i64 0))⟩,
  ⟨(some 76), none, [], false, .mv (.t 75)⟩,
  ⟨(some 77), (some (76, false)), [], false, .mv (.t 18)⟩,
  ⟨(some 78), (some (76, false)), [], false, .un .not (.t 77)⟩,
  ⟨(some 79), (some (76, false)), [], false, .mv (.t 78)⟩,
  ⟨(some 80), (some (79, true)), [], false, .ld true 4 (.t 20)⟩,
  ⟨(some 81), (some (79, true)), [], false, .call 25 [(.t 80)]⟩,
  ⟨(some 82), (some (76, false)), [], false, .pick (.t 79) (.t 81) (.c (.bool false))⟩,
  ⟨(some 83), (some (76, false)), [], false, .mv (.t 82)⟩,
  ⟨(some 84), (some (83, true)), [], false, .fad 3 (.t 7)⟩,
  ⟨(some 85), (some (83, true)), [], false, .ld false 1 (.t 84)⟩,
  ⟨(some 86), (some (83, true)), [], false, .len (.t 85)⟩,
  ⟨(some 87), (some (83, true)), [], false, .fad 2 (.t 7)⟩,
  ⟨(some 88), (some (83, true)), [], false, .ld false 1 (.t 87)⟩,
  ⟨(some 89), (some (83, true)), [], false, .bin .geq .other (.t 86) (.t 88)⟩,
  ⟨(some 90), (some (76, false)), [], false, .pick (.t 83) (.t 89) (.c (.bool false))⟩,
  ⟨(some 91), none, [], false, .pick (.t 76) (.c (.bool true)) (.t 90)⟩]
def f33r11 : List I := [⟨(some 92), none, [], false, .ld true 4 (.t 7)⟩,
  ⟨none, none, [], false, .st 4 (.t 14) (.t 92)⟩,
  ⟨(some 15), none, [], false, .mv (.c (nilS))⟩,
  ⟨(some 16), none, [], false, .mv (.c (.bool true))⟩]
def f33r12 : List I := [⟨(some 93), none, [], false, .ld true 4 (.t 20)⟩,
  ⟨(some 94), none, [], false, .fad 3 (.t 17)⟩,
  ⟨none, none, [], false, .st 4 (.t 94) (.t 93)⟩]
def f33r13 : List I := [⟨(some 95), none, [], false, .mv (.t 5)⟩]
def f33r14 : List I := [⟨(some 96), none, [], false, .fad 0 (.t 7)⟩,
  ⟨(some 97), none, [], false, .fad 0 (.t 96)⟩,
  ⟨(some 98), none, [], false, .ld false 1 (.t 97)⟩,
  ⟨(some 99), none, [], false, .fad 1 (.t 17)⟩,
  ⟨none, none, [], false, .st 1 (.t 99) (.t 98)⟩]
def f33r15 : List I := [⟨(some 100), none, [], false, .mv (.t 6)⟩]
def f33r16 : List I := [⟨(some 101), none, [], false, .fad 0 (.t 7)⟩,
  ⟨(some 102), none, [], false, .fad 0 (.t 101)⟩,
  ⟨(some 103), none, [], false, .ld false 1 (.t 102)⟩,
  ⟨(some 104), none, [], false, .fad 2 (.t 17)⟩,
  ⟨none, none, [], false, .st 1 (.t 104) (.t 103)⟩]
def f33r17 : List I := [⟨(some 23), none, [], false, .mv (.c (nilS))⟩]
def f33r18 : List I := [⟨(some 24), none, [], false, .mv (.c (.int .i64 0))⟩]
def f33r19 : List I := [⟨(some 105), none, [], false, .mv (.t 24)⟩,
  ⟨(some 106), none, [], false, .mv (.t 21)⟩,
  ⟨(some 107), none, [], false, .len (.t 106)⟩,
  ⟨(some 108), none, [], false, .bin .lss .other (.t 105) (.t 107)⟩]
def f33r20 : List I := [⟨(some 111), none, [], false, .mv (.t 23)⟩,
  ⟨(some 112), none, [], false, .mv (.t 1)⟩,
  ⟨(some 113), none, [], false, .mv (.t 21)⟩,
  ⟨(some 114), none, [], false, .mv (.t 24)⟩,
  ⟨(some 115), none, [], false, .iad 2 none (.t 113) (.t 114)⟩,
  ⟨(some 116), none, [], false, .ld true 2 (.t 115)⟩,
  ⟨(some 117), none, [], false, .build [.int .i64 0, .int .u32 0, nilS] [(0, 1, (.t 112)), (1, 2, (.t 116))]⟩,
  ⟨(some 118), none, [], false, .bslice 3 1 [.int .i64 0, .int .u32 0, nilS] [(0, 3, (.t 117))]⟩,
  ⟨(some 119), none, [], false, .app 3 40 (.t 111) (.t 118)⟩,
  ⟨(some 23), none, [], false, .mv (.t 119)⟩]
def f33r21 : List I := [⟨(some 109), none, [], false, .mv (.t 24)⟩,
  ⟨(some 110), none, [], false, .bin .add .other (.t 109) (.c (.int .i64 1))⟩,
  ⟨(some 24), none, [], false, .mv (.t 110)⟩]
def f33l0 : C := (.seq (.seq (.reg false f33r19) (.cond (.t 108) .skip (.exit 0))) (.seq (.block 1 (.reg false f33r20)) (.reg false f33r21)))
def f33r22 : List I := [⟨(some 120), none, [], false, .ld true 4 (.t 7)⟩,
  ⟨(some 121), none, [], false, .ld true 7 (.t 17)⟩,
  ⟨(some 122), none, [], false, .call 50 [(.t 120), (.t 121)]⟩,
  ⟨(some 123), none, [], false, .mv (.t 23)⟩,
  ⟨none, none, [], false, .st 4 (.t 14) (.t 122)⟩,
  ⟨(some 15), none, [], false, .mv (.t 123)⟩,
  ⟨(some 16), none, [], false, .mv (.c (.bool false))⟩]
def f33 : Fn := ⟨[0, 1, 2, 3, 4, 5, 6, 7, 14, 15, 16, 17, 18, 19, 20, 21, 22, 23, 24, 46, 62, 91, 95, 100, 108], (.seq (.reg false f33r0) (.seq (.reg false f33r1) (.seq (.reg false f33r2) (.seq (.reg false f33r3) (.seq (.reg false f33r4) (.seq (.reg false f33r5) (.seq (.seq (.reg false f33r6) (.cond (.t 46) (.reg false f33r7) .skip)) (.seq (.seq (.reg false f33r8) (.cond (.t 62) (.reg false f33r9) .skip)) (.seq (.seq (.reg false f33r10) (.cond (.t 91) (.seq (.reg false f33r11) .ret) .skip)) (.seq (.reg false f33r12) (.seq (.seq (.reg false f33r13) (.cond (.t 95) (.reg false f33r14) .skip)) (.seq (.seq (.reg false f33r15) (.cond (.t 100) (.reg false f33r16) .skip)) (.seq (.reg false f33r17) (.seq (.seq (.reg false f33r18) (.block 0 (.loop f33l0))) (.seq (.reg false f33r22) .ret))))))))))))))), [.cell 14 true 4, .tmp 15, .tmp 16]⟩
/-! 34: stolon/stolonref08.Same -/
def f34r0 : List I := [⟨(some 2), none, [], false, .box (.t 0)⟩,
  ⟨(some 3), none, [], false, .box (.t 1)⟩,
  ⟨(some 4), none, [], false, .mv (.c (.bool false))⟩]
def f34r1 : List I := [⟨(some 6), none, [], false, .fad 0 (.t 2)⟩,
  ⟨(some 7), none, [], false, .ld false 1 (.t 6)⟩,
  ⟨(some 8), none, [], false, .fad 0 (.t 3)⟩,
  ⟨(some 9), none, [], false, .ld false 1 (.t 8)⟩,
  ⟨(some 10), none, [], false, .bin .neq .other (.t 7) (.t 9)⟩,
  ⟨(some 11), none, [], false, .mv (.t 10)⟩,
  ⟨(some 12), (some (11, false)), [], false, .fad 1 (.t 2)⟩,
  ⟨(some 13), (some (11, false)), [], false, .ld false 1 (.t 12)⟩,
  ⟨(some 14), (some (11, false)), [], false, .fad 1 (.t 3)⟩,
  ⟨(some 15), (some (11, false)), [], false, .ld false 1 (.t 14)⟩,
  ⟨(some 16), (some (11, false)), [], false, .bin .neq .flat (.t 13) (.t 15)⟩,
  ⟨(some 17), none, [], false, .pick (.t 11) (.c (.bool true)) (.t 16)⟩,
  ⟨(some 18), none, [], false, .mv (.t 17)⟩,
  ⟨(some 19), (some (18, false)), [], false, .fad 2 (.t 2)⟩,
  ⟨(some 20), (some (18, false)), [], false, .ld false 1 (.t 19)⟩,
  ⟨(some 21), (some (18, false)), [], false, .fad 2 (.t 3)⟩,
  ⟨(some 22), (some (18, false)), [], false, .ld false 1 (.t 21)⟩,
  ⟨(some 23), (some (18, false)), [], false, .bin .neq .other (.t 20) (.t 22)⟩,
  ⟨(some 24), none, [], false, .pick (.t 18) (.c (.bool true)) (.t 23)⟩,
  ⟨(some 25), none, [], false, .mv (.t 24)⟩,
  ⟨(some 26), (some (25, false)), [], false, .fad 3 (.t 2)⟩,
  ⟨(some 27), (some (25, false)), [], false, .ld false 1 (.t 26)⟩,
  ⟨(some 28), (some (25, false)), [], false, .len (.t 27)⟩,
  ⟨(some 29), (some (25, false)), [], false, .fad 3 (.t 3)⟩,
  ⟨(some 30), (some (25, false)), [], false, .ld false 1 (.t 29)⟩,
  ⟨(some 31), (some (25, false)), [], false, .len (.t 30)⟩,
  ⟨(some 32), (some (25, false)), [], false, .bin .neq .other (.t 28) (.t 31)⟩,
  ⟨(some 33), none, [], false, .pick (.t 25) (.c (.bool true)) (.t 32)⟩]
def f34r2 : List I := [⟨(some 4), none, [], false, .mv (.c (.bool false))⟩]
def f34r3 : List I := [⟨(some 5), none, [], false, .mv (.c (.int .i64 0))⟩]
def f34r4 : List I := [⟨(some 34), none, [], false, .mv (.t 5)⟩,
  ⟨(some 35), none, [], false, .fad 3 (.t 2)⟩,
  ⟨(some 36), none, [], false, .ld false 1 (.t 35)⟩,
  ⟨(some 37), none, [], false, .len (.t 36)⟩,
  ⟨(some 38), none, [], false, .bin .lss .other (.t 34) (.t 37)⟩]
def f34r5 : List I := [⟨(some 41), none, [], false, .fad 3 (.t 2)⟩,
  ⟨(some 42), none, [], false, .ld false 1 (.t 41)⟩,
  ⟨(some 43), none, [], false, .mv (.t 5)⟩,
  ⟨(some 44), none, [], false, .iad 2 none (.t 42) (.t 43)⟩,
  ⟨(some 45), none, [], false, .ld true 2 (.t 44)⟩,
  ⟨(some 46), none, [], false, .fad 3 (.t 3)⟩,
  ⟨(some 47), none, [], false, .ld false 1 (.t 46)⟩,
  ⟨(some 48), none, [], false, .mv (.t 5)⟩,
  ⟨(some 49), none, [], false, .iad 2 none (.t 47) (.t 48)⟩,
  ⟨(some 50), none, [], false, .ld true 2 (.t 49)⟩,
  ⟨(some 51), none, [], false, .bin .neq (.plain [some .u32, some .i64]) (.t 45) (.t 50)⟩]
def f34r6 : List I := [⟨(some 4), none, [], false, .mv (.c (.bool false))⟩]
def f34r7 : List I := [⟨(some 39), none, [], false, .mv (.t 5)⟩,
  ⟨(some 40), none, [], false, .bin .add .other (.t 39) (.c (.int .i64 1))⟩,
  ⟨(some 5), none, [], false, .mv (.t 40)⟩]
def f34l0 : C := (.seq (.seq (.reg false f34r4) (.cond (.t 38) .skip (.exit 0))) (.seq (.block 1 (.seq (.reg true f34r5) (.cond (.t 51) (.seq (.reg false f34r6) .ret) .skip))) (.reg false f34r7)))
def f34r8 : List I := [⟨(some 4), none, [], false, .mv (.c (.bool true))⟩]
def f34 : Fn := ⟨[0, 1, 2, 3, 4, 5, 33, 38, 51], (.seq (.reg false f34r0) (.seq (.seq (.reg false f34r1) (.cond (.t 33) (.seq (.reg false f34r2) .ret) .skip)) (.seq (.seq (.reg false f34r3) (.block 0 (.loop f34l0))) (.seq (.reg false f34r8) .ret)))), [.tmp 4]⟩
/-! 35: stolon/stolonref08.Asks -/
def f35r0 : List I := [⟨(some 4), none, [], false, .mv (.c (.bool false))⟩]
def f35r1 : List I := [⟨(some 7), none, [], false, .mv (.t 0)⟩,
  ⟨(some 8), none, [], false, .len (.t 7)⟩,
  ⟨(some 9), none, [], false, .mv (.t 1)⟩,
  ⟨(some 10), none, [], false, .len (.t 9)⟩,
  ⟨(some 11), none, [], false, .bin .neq .other (.t 8) (.t 10)⟩]
def f35r2 : List I := [⟨(some 4), none, [], false, .mv (.c (.bool false))⟩]
def f35r3 : List I := [⟨(some 5), none, [], false, .mv (.c (.int .i64 0))⟩]
def f35r4 : List I := [⟨(some 12), none, [], false, .mv (.t 5)⟩,
  ⟨(some 13), none, [], false, .mv (.t 0)⟩,
  ⟨(some 14), none, [], false, .len (.t 13)⟩,
  ⟨(some 15), none, [], false, .bin .lss .other (.t 12) (.t 14)⟩]
def f35r5 : List I := [⟨(some 18), none, [], false, .mv (.t 0)⟩,
  ⟨(some 19), none, [], false, .mv (.t 5)⟩,
  ⟨(some 20), none, [], false, .iad 2 none (.t 18) (.t 19)⟩,
  ⟨(some 21), none, [], false, .fad 1 (.t 20)⟩,
  ⟨(some 22), none, [], false, .ld false 1 (.t 21)⟩,
  ⟨(some 23), none, [], false, .mv (.t 1)⟩,
  ⟨(some 24), none, [], false, .mv (.t 5)⟩,
  ⟨(some 25), none, [], false, .iad 2 none (.t 23) (.t 24)⟩,
  ⟨(some 26), none, [], false, .fad 1 (.t 25)⟩,
  ⟨(some 27), none, [], false, .ld false 1 (.t 26)⟩,
  ⟨(some 28), none, [], false, .call 51 [(.t 22), (.t 27)]⟩,
  ⟨(some 6), none, [], false, .mv (.t 28)⟩]
def f35r6 : List I := [⟨(some 29), none, [], false, .mv (.t 6)⟩,
  ⟨(some 30), none, [], false, .un .not (.t 29)⟩,
  ⟨(some 31), none, [], false, .mv (.t 30)⟩,
  ⟨(some 32), (some (31, false)), [], false, .mv (.t 0)⟩,
  ⟨(some 33), (some (31, false)), [], false, .mv (.t 5)⟩,
  ⟨(some 34), (some (31, false)), [], false, .iad 2 none (.t 32) (.t 33)⟩,
  ⟨(some 35), (some (31, false)), [], false, .fad 0 (.t 34)⟩,
  ⟨(some 36), (some (31, false)), [], false, .ld false 1 (.t 35)⟩,
  ⟨(some 37), (some (31, false)), [], false, .mv (.t 1)⟩,
  ⟨(some 38), (some (31, false)), [], false, .mv (.t 5)⟩,
  ⟨(some 39), (some (31, false)), [], false, .iad 2 none (.t 37) (.t 38)⟩,
  ⟨(some 40), (some (31, false)), [], false, .fad 0 (.t 39)⟩,
  ⟨(some 41), (some (31, false)), [], false, .ld false 1 (.t 40)⟩,
  ⟨(some 42), (some (31, false)), [], false, .bin .neq .other (.t 36) (.t 41)⟩,
  ⟨(some 43), none, [], false, .pick (.t 31) (.c (.bool true)) (.t 42)⟩]
def f35r7 : List I := [⟨(some 4), none, [], false, .mv (.c (.bool false))⟩]
def f35r8 : List I := [⟨(some 16), none, [], false, .mv (.t 5)⟩,
  ⟨(some 17), none, [], false, .bin .add .other (.t 16) (.c (.int .i64 1))⟩,
  ⟨(some 5), none, [], false, .mv (.t 17)⟩]
def f35l0 : C := (.seq (.seq (.reg false f35r4) (.cond (.t 15) .skip (.exit 0))) (.seq (.block 1 (.seq (.reg true f35r5) (.seq (.reg true f35r6) (.cond (.t 43) (.seq (.reg false f35r7) .ret) .skip)))) (.reg false f35r8)))
def f35r9 : List I := [⟨(some 4), none, [], false, .mv (.c (.bool true))⟩]
def f35 : Fn := ⟨[0, 1, 4, 5, 6, 11, 15, 43], (.seq (.reg false f35r0) (.seq (.seq (.reg false f35r1) (.cond (.t 11) (.seq (.reg false f35r2) .ret) .skip)) (.seq (.seq (.reg false f35r3) (.block 0 (.loop f35l0))) (.seq (.reg false f35r9) .ret)))), [.tmp 4]⟩
/-! 36: stolon/db.place -/
def f36r0 : List I := [⟨(some 2), none, [], false, .box (.t 0)⟩,
  ⟨(some 3), none, [], false, .box (.t 1)⟩,
  ⟨(some 4), none, [], false, .mv (.c (.int .i64 0))⟩,
  ⟨(some 5), none, [], false, .mv (.c (.bool false))⟩]
def f36r1 : List I := [⟨(some 6), none, [], false, .fad 3 (.t 2)⟩,
  ⟨(some 7), none, [], false, .ld false 1 (.t 6)⟩,
  ⟨(some 8), none, [], false, .ld true 2 (.t 3)⟩,
  ⟨(some 9), none, [], false, .call 52 [(.t 7), (.t 8), (.c (.fn 43 []))]⟩,
  ⟨(some 10), none, [], false, .ext 0 (.t 9)⟩,
  ⟨(some 11), none, [], false, .ext 1 (.t 9)⟩,
  ⟨(some 4), none, [], false, .mv (.t 10)⟩,
  ⟨(some 5), none, [], false, .mv (.t 11)⟩]
def f36 : Fn := ⟨[0, 1, 2, 3, 4, 5], (.seq (.reg false f36r0) (.seq (.reg false f36r1) .ret)), [.tmp 4, .tmp 5]⟩
/-! 37: stolon/memb.Wants -/
def f37r0 : List I := [⟨(some 2), none, [], false, .box (.t 0)⟩,
  ⟨(some 4), none, [], false, .mv (.c (.bool false))⟩]
def f37r1 : List I := [⟨(some 8), none, [], false, .fad 3 (.t 2)⟩,
  ⟨(some 9), none, [], false, .ld false 1 (.t 8)⟩,
  ⟨(some 10), none, [], false, .mv (.t 1)⟩,
  ⟨(some 11), none, [], false, .call 53 [(.t 9), (.t 10)]⟩,
  ⟨(some 7), none, [], false, .mv (.t 11)⟩,
  ⟨(some 12), none, [], false, .ext 0 (.t 7)⟩,
  ⟨(some 13), none, [], false, .ext 1 (.t 7)⟩,
  ⟨(some 5), none, [], false, .mv (.t 12)⟩,
  ⟨(some 6), none, [], false, .mv (.t 13)⟩]
def f37r2 : List I := [⟨(some 14), none, [], false, .fad 1 (.t 2)⟩,
  ⟨(some 15), none, [], false, .ld false 1 (.t 14)⟩]
def f37r3 : List I := [⟨(some 16), none, [], false, .mv (.t 6)⟩,
  ⟨(some 17), none, [], false, .un .not (.t 16)⟩,
  ⟨(some 18), none, [], false, .mv (.t 17)⟩,
  ⟨(some 19), (some (18, false)), [], false, .fad 3 (.t 2)⟩,
  ⟨(some 20), (some (18, false)), [], false, .ld false 1 (.t 19)⟩,
  ⟨(some 21), (some (18, false)), [], false, .mv (.t 5)⟩,
  ⟨(some 22), (some (18, false)), [], false, .iad 2 none (.t 20) (.t 21)⟩,
  ⟨(some 23), (some (18, false)), [], false, .fad 1 (.t 22)⟩,
  ⟨(some 24), (some (18, false)), [], false, .ld false 1 (.t 23)⟩,
  ⟨(some 25), (some (18, false)), [], false, .bin .gtr .other (.t 24) (.c (.int .i64 0))⟩,
  ⟨(some 26), none, [], false, .pick (.t 18) (.c (.bool true)) (.t 25)⟩,
  ⟨(some 4), none, [], false, .mv (.t 26)⟩]
def f37r4 : List I := [⟨(some 27), none, [], false, .mv (.t 6)⟩,
  ⟨(some 4), none, [], false, .mv (.t 27)⟩]
def f37 : Fn := ⟨[0, 1, 2, 4, 5, 6, 15], (.seq (.reg false f37r0) (.seq (.reg false f37r1) (.seq (.seq (.reg false f37r2) (.cond (.t 15) (.seq (.reg false f37r3) .ret) .skip)) (.seq (.reg false f37r4) .ret)))), [.tmp 4]⟩
/-! 38: stolon/memb.Tick -/
def f38r0 : List I := [⟨(some 2), none, [], false, .box (.t 0)⟩,
  ⟨(some 4), none, [], false, .alloc [.int .u32 0, .bool false, .int .i64 0, nilS]⟩]
def f38r1 : List I := [⟨(some 8), none, [], false, .mv (.t 1)⟩,
  ⟨(some 9), none, [], false, .mx (.t 8) [(.c (.int .i64 0))]⟩,
  ⟨(some 10), none, [], false, .mn (.t 9) [(.c (.int .i64 1000000))]⟩,
  ⟨(some 1), none, [], false, .mv (.t 10)⟩]
def f38r2 : List I := [⟨(some 11), none, [], false, .fad 2 (.t 2)⟩,
  ⟨(some 12), none, [], false, .ld false 1 (.t 11)⟩,
  ⟨(some 13), none, [], false, .mv (.t 1)⟩,
  ⟨(some 14), none, [], false, .bin .sub .other (.t 12) (.t 13)⟩,
  ⟨(some 15), none, [], false, .mx (.t 14) [(.c (.int .i64 0))]⟩,
  ⟨(some 16), none, [], false, .fad 2 (.t 2)⟩,
  ⟨none, none, [], false, .st 1 (.t 16) (.t 15)⟩]
def f38r3 : List I := [⟨(some 17), none, [], false, .fad 1 (.t 2)⟩,
  ⟨(some 18), none, [], false, .ld false 1 (.t 17)⟩,
  ⟨(some 19), none, [], false, .mv (.t 18)⟩,
  ⟨(some 20), (some (19, true)), [], false, .fad 2 (.t 2)⟩,
  ⟨(some 21), (some (19, true)), [], false, .ld false 1 (.t 20)⟩,
  ⟨(some 22), (some (19, true)), [], false, .bin .gtr .other (.t 21) (.c (.int .i64 0))⟩,
  ⟨(some 23), none, [], false, .pick (.t 19) (.t 22) (.c (.bool false))⟩,
  ⟨(some 24), none, [], false, .fad 1 (.t 2)⟩,
  ⟨none, none, [], false, .st 1 (.t 24) (.t 23)⟩]
def f38r4 : List I := [⟨(some 5), none, [], false, .mv (.c (nilS))⟩]
def f38r5 : List I := [⟨(some 25), none, [], false, .fad 3 (.t 2)⟩,
  ⟨(some 26), none, [], false, .ld false 1 (.t 25)⟩,
  ⟨(some 27), none, [], false, .len (.t 26)⟩,
  ⟨(some 28), none, [], false, .mv (.c (.int .i64 0))⟩]
def f38r6 : List I := [⟨(some 29), none, [], false, .bin .lss .other (.t 28) (.t 27)⟩]
def f38r7 : List I := [⟨(some 30), none, [], false, .iad 2 none (.t 26) (.t 28)⟩,
  ⟨(some 31), none, [], false, .ld true 2 (.t 30)⟩,
  ⟨(some 7), none, [], false, .alloc [.int .u32 0, .int .i64 0]⟩,
  ⟨none, none, [], false, .st 2 (.t 7) (.t 31)⟩]
def f38r8 : List I := [⟨(some 32), none, [], false, .fad 1 (.t 7)⟩,
  ⟨(some 33), none, [], false, .ld false 1 (.t 32)⟩,
  ⟨(some 34), none, [], false, .mv (.t 1)⟩,
  ⟨(some 35), none, [], false, .bin .sub .other (.t 33) (.t 34)⟩,
  ⟨(some 36), none, [], false, .mx (.t 35) [(.c (.int .i64 0))]⟩,
  ⟨(some 37), none, [], false, .fad 1 (.t 7)⟩,
  ⟨none, none, [], false, .st 1 (.t 37) (.t 36)⟩]
def f38r9 : List I := [⟨(some 38), none, [], false, .fad 1 (.t 2)⟩,
  ⟨(some 39), none, [], false, .ld false 1 (.t 38)⟩,
  ⟨(some 40), none, [], false, .mv (.t 39)⟩,
  ⟨(some 41), (some (40, false)), [], false, .fad 1 (.t 7)⟩,
  ⟨(some 42), (some (40, false)), [], false, .ld false 1 (.t 41)⟩,
  ⟨(some 43), (some (40, false)), [], false, .bin .gtr .other (.t 42) (.c (.int .i64 0))⟩,
  ⟨(some 44), none, [], false, .pick (.t 40) (.c (.bool true)) (.t 43)⟩]
def f38r10 : List I := [⟨(some 45), none, [], false, .mv (.t 5)⟩,
  ⟨(some 46), none, [], false, .ld true 2 (.t 7)⟩,
  ⟨(some 47), none, [], false, .bslice 2 1 [.int .u32 0, .int .i64 0] [(0, 2, (.t 46))]⟩,
  ⟨(some 48), none, [], false, .app 2 16 (.t 45) (.t 47)⟩,
  ⟨(some 5), none, [], false, .mv (.t 48)⟩]
def f38r11 : List I := [⟨(some 49), none, [], false, .bin .add .other (.t 28) (.c (.int .i64 1))⟩,
  ⟨(some 28), none, [], false, .mv (.t 49)⟩]
def f38l0 : C := (.seq (.reg false f38r6) (.seq (.cond (.t 29) .skip (.exit 0)) (.seq (.block 1 (.seq (.reg false f38r7) (.seq (.reg false f38r8) (.seq (.reg false f38r9) (.cond (.t 44) (.reg false f38r10) .skip))))) (.reg false f38r11))))
def f38r12 : List I := [⟨(some 50), none, [], false, .mv (.t 5)⟩,
  ⟨(some 51), none, [], false, .fad 3 (.t 2)⟩,
  ⟨none, none, [], false, .st 1 (.t 51) (.t 50)⟩]
def f38r13 : List I := [⟨(some 52), none, [], false, .ld true 4 (.t 2)⟩,
  ⟨none, none, [], false, .st 4 (.t 4) (.t 52)⟩]
def f38 : Fn := ⟨[0, 1, 2, 4, 5, 7, 26, 27, 28, 29, 44], (.seq (.reg false f38r0) (.seq (.reg false f38r1) (.seq (.reg false f38r2) (.seq (.reg false f38r3) (.seq (.reg false f38r4) (.seq (.seq (.reg false f38r5) (.block 0 (.loop f38l0))) (.seq (.reg false f38r12) (.seq (.reg false f38r13) .ret)))))))), [.cell 4 true 4]⟩
/-! 39: stolon/memb.Some -/
def f39r0 : List I := [⟨(some 1), none, [], false, .box (.t 0)⟩,
  ⟨(some 2), none, [], false, .mv (.c (.bool false))⟩]
def f39r1 : List I := [⟨(some 3), none, [], false, .fad 1 (.t 1)⟩,
  ⟨(some 4), none, [], false, .ld false 1 (.t 3)⟩,
  ⟨(some 5), none, [], false, .mv (.t 4)⟩,
  ⟨(some 6), (some (5, false)), [], false, .fad 3 (.t 1)⟩,
  ⟨(some 7), (some (5, false)), [], false, .ld false 1 (.t 6)⟩,
  ⟨(some 8), (some (5, false)), [], false, .len (.t 7)⟩,
  ⟨(some 9), (some (5, false)), [], false, .bin .gtr .other (.t 8) (.c (.int .i64 0))⟩,
  ⟨(some 10), none, [], false, .pick (.t 5) (.c (.bool true)) (.t 9)⟩,
  ⟨(some 2), none, [], false, .mv (.t 10)⟩]
def f39 : Fn := ⟨[0, 1, 2], (.seq (.reg false f39r0) (.seq (.reg false f39r1) .ret)), [.tmp 2]⟩
/-! 40: stolon/memb.May -/
def f40r0 : List I := [⟨(some 1), none, [], false, .box (.t 0)⟩,
  ⟨(some 2), none, [], false, .mv (.c (.bool false))⟩]
def f40r1 : List I := [⟨(some 3), none, [], false, .fad 1 (.t 1)⟩,
  ⟨(some 4), none, [], false, .ld false 1 (.t 3)⟩,
  ⟨(some 5), none, [], false, .bin .geq .other (.t 4) (.c (.int .i64 1))⟩,
  ⟨(some 6), none, [], false, .mv (.t 5)⟩,
  ⟨(some 7), (some (6, true)), [], false, .fad 1 (.t 1)⟩,
  ⟨(some 8), (some (6, true)), [], false, .ld false 1 (.t 7)⟩,
  ⟨(some 9), (some (6, true)), [], false, .fad 0 (.t 1)⟩,
  ⟨(some 10), (some (6, true)), [], false, .ld false 1 (.t 9)⟩,
  ⟨(some 11), (some (6, true)), [], false, .bin .leq .other (.t 8) (.t 10)⟩,
  ⟨(some 12), none, [], false, .pick (.t 6) (.t 11) (.c (.bool false))⟩,
  ⟨(some 13), none, [], false, .mv (.t 12)⟩,
  ⟨(some 14), (some (13, true)), [], false, .fad 0 (.t 1)⟩,
  ⟨(some 15), (some (13, true)), [], false, .ld false 1 (.t 14)⟩,
  ⟨(some 16), (some (13, true)), [], false, .bin .leq .other (.t 15) (.c (.int .i64 1000000))⟩,
  ⟨(some 17), none, [], false, .pick (.t 13) (.t 16) (.c (.bool false))⟩,
  ⟨(some 2), none, [], false, .mv (.t 17)⟩]
def f40 : Fn := ⟨[0, 1, 2], (.seq (.reg false f40r0) (.seq (.reg false f40r1) .ret)), [.tmp 2]⟩
/-! 41: stolon/db.right -/
def f41r0 : List I := [⟨(some 1), none, [], false, .box (.t 0)⟩,
  ⟨(some 2), none, [], false, .mv (.c (.bool false))⟩]
def f41r1 : List I := [⟨(some 3), none, [], false, .mv (.c (.fn 54 []))⟩]
def f41r2 : List I := [⟨(some 4), none, [], false, .fad 0 (.t 1)⟩,
  ⟨(some 5), none, [], false, .ld false 1 (.t 4)⟩,
  ⟨(some 6), none, [], false, .call 27 [(.t 5)]⟩,
  ⟨(some 7), none, [], false, .mv (.t 6)⟩,
  ⟨(some 8), (some (7, true)), [], false, .mv (.t 3)⟩,
  ⟨(some 9), (some (7, true)), [], false, .fad 1 (.t 1)⟩,
  ⟨(some 10), (some (7, true)), [], false, .ld false 1 (.t 9)⟩,
  ⟨(some 11), (some (7, true)), [], false, .ccall (.t 8) [(.t 10)]⟩,
  ⟨(some 12), (some (7, true)), [], false, .un .not (.t 11)⟩,
  ⟨(some 13), none, [], false, .pick (.t 7) (.t 12) (.c (.bool false))⟩,
  ⟨(some 14), none, [], false, .mv (.t 13)⟩,
  ⟨(some 15), (some (14, true)), [], false, .mv (.t 3)⟩,
  ⟨(some 16), (some (14, true)), [], false, .fad 2 (.t 1)⟩,
  ⟨(some 17), (some (14, true)), [], false, .ld false 1 (.t 16)⟩,
  ⟨(some 18), (some (14, true)), [], false, .ccall (.t 15) [(.t 17)]⟩,
  ⟨(some 19), (some (14, true)), [], false, .un .not (.t 18)⟩,
  ⟨(some 20), none, [], false, .pick (.t 14) (.t 19) (.c (.bool false))⟩,
  ⟨(some 21), none, [], false, .mv (.t 20)⟩,
  ⟨(some 22), (some (21, true)), [], false, .fad 3 (.t 1)⟩,
  ⟨(some 23), (some (21, true)), [], false, .ld true 4 (.t 22)⟩,
  ⟨(some 24), (some (21, true)), [], false, .call 55 [(.t 23)]⟩,
  ⟨(some 25), none, [], false, .pick (.t 21) (.t 24) (.c (.bool false))⟩,
  ⟨(some 26), none, [], false, .mv (.t 25)⟩,
  ⟨(some 27), (some (26, true)), [], false, .fad 3 (.t 1)⟩,
  ⟨(some 28), (some (26, true)), [], false, .ld true 4 (.t 27)⟩,
  ⟨(some 29), (some (26, true)), [], false, .call 39 [(.t 28)]⟩,
  ⟨(some 30), none, [], false, .pick (.t 26) (.t 29) (.c (.bool false))⟩,
  ⟨(some 2), none, [], false, .mv (.t 30)⟩]
def f41 : Fn := ⟨[0, 1, 2, 3], (.seq (.reg false f41r0) (.seq (.reg false f41r1) (.seq (.reg false f41r2) .ret))), [.tmp 2]⟩
/-! 42: stolon/db.of -/
def f42r0 : List I := [⟨(some 1), none, [], false, .box (.t 0)⟩,
  ⟨(some 2), none, [], false, .alloc [.int .i64 0, .int .u32 0]⟩]
def f42r1 : List I := [⟨(some 3), none, [], false, .fad 0 (.t 1)⟩,
  ⟨(some 4), none, [], false, .ld false 1 (.t 3)⟩,
  ⟨(some 5), none, [], false, .fad 3 (.t 1)⟩,
  ⟨(some 6), none, [], false, .fad 0 (.t 5)⟩,
  ⟨(some 7), none, [], false, .ld false 1 (.t 6)⟩,
  ⟨(some 8), none, [], false, .build [.int .i64 0, .int .u32 0] [(0, 1, (.t 4)), (1, 1, (.t 7))]⟩,
  ⟨none, none, [], false, .st 2 (.t 2) (.t 8)⟩]
def f42 : Fn := ⟨[0, 1, 2], (.seq (.reg false f42r0) (.seq (.reg false f42r1) .ret)), [.cell 2 true 2]⟩
/-! 43: stolon/db.order -/
def f43r0 : List I := [⟨(some 2), none, [], false, .box (.t 0)⟩,
  ⟨(some 3), none, [], false, .box (.t 1)⟩,
  ⟨(some 4), none, [], false, .mv (.c (.int .i64 0))⟩]
def f43r1 : List I := [⟨(some 5), none, [], false, .fad 0 (.t 2)⟩,
  ⟨(some 6), none, [false], false, .ld false 1 (.t 5)⟩,
  ⟨(some 7), none, [], false, .fad 0 (.t 3)⟩,
  ⟨(some 8), none, [false], false, .ld false 1 (.t 7)⟩,
  ⟨(some 9), none, [false], false, .call 57 [(.t 6), (.t 8)]⟩,
  ⟨(some 10), none, [], false, .fad 3 (.t 2)⟩,
  ⟨(some 11), none, [], false, .fad 0 (.t 10)⟩,
  ⟨(some 12), none, [false], false, .ld false 1 (.t 11)⟩,
  ⟨(some 13), none, [], false, .fad 1 (.t 3)⟩,
  ⟨(some 14), none, [false], false, .ld false 1 (.t 13)⟩,
  ⟨(some 15), none, [false], false, .call 58 [(.t 12), (.t 14)]⟩,
  ⟨(some 16), none, [], false, .bslice 1 2 [.int .i64 0, .int .i64 0] [(0, 1, (.t 9)), (1, 1, (.t 15))]⟩,
  ⟨(some 17), none, [true], false, .call 56 [(.t 16)]⟩,
  ⟨(some 4), none, [], false, .mv (.t 17)⟩]
def f43 : Fn := ⟨[0, 1, 2, 3, 4], (.seq (.reg false f43r0) (.seq (.reg true f43r1) .ret)), [.tmp 4]⟩
/-! 44: stolon/db.heard -/
def f44r0 : List I := [⟨(some 3), none, [], false, .box (.t 0)⟩,
  ⟨(some 4), none, [], false, .box (.t 1)⟩,
  ⟨(some 5), none, [], false, .box (.t 2)⟩,
  ⟨(some 6), none, [], false, .alloc [.int .u32 0, .bool false, .int .i64 0, nilS]⟩,
  ⟨(some 7), none, [], false, .mv (.c (nilS))⟩,
  ⟨(some 8), none, [], false, .mv (.c (.int .i64 0))⟩]
def f44r1 : List I := [⟨(some 10), none, [], false, .fad 1 (.t 4)⟩,
  ⟨(some 11), none, [], false, .ld false 1 (.t 10)⟩,
  ⟨(some 12), none, [], false, .bin .gtr .other (.t 11) (.c (.int .i64 0))⟩,
  ⟨(some 13), none, [], false, .mv (.t 12)⟩,
  ⟨(some 14), (some (13, false)), [], false, .fad 2 (.t 4)⟩,
  ⟨(some 15), (some (13, false)), [], false, .ld false 1 (.t 14)⟩,
  ⟨(some 16), (some (13, false)), [], false, .bin .gtr .other (.t 15) (.c (.int .i64 0))⟩,
  ⟨(some 17), none, [], false, .pick (.t 13) (.c (.bool true)) (.t 16)⟩,
  ⟨(some 9), none, [], false, .mv (.t 17)⟩]
def f44r2 : List I := [⟨(some 19), none, [], false, .fad 1 (.t 4)⟩,
  ⟨(some 20), none, [], false, .ld false 1 (.t 19)⟩,
  ⟨(some 21), none, [], false, .bin .gtr .other (.t 20) (.c (.int .i64 0))⟩,
  ⟨(some 22), none, [], false, .mv (.t 21)⟩,
  ⟨(some 23), (some (22, true)), [], false, .fad 0 (.t 5)⟩,
  ⟨(some 24), (some (22, true)), [], false, .ld false 1 (.t 23)⟩,
  ⟨(some 25), (some (22, true)), [], false, .bin .eql .other (.t 24) (.c (.int .u8 3))⟩,
  ⟨(some 26), none, [], false, .pick (.t 22) (.t 25) (.c (.bool false))⟩,
  ⟨(some 18), none, [], false, .mv (.t 26)⟩]
def f44r3 : List I := [⟨(some 27), none, [], false, .mv (.t 9)⟩,
  ⟨(some 28), none, [], false, .mv (.t 27)⟩,
  ⟨(some 29), (some (28, true)), [], false, .fad 0 (.t 5)⟩,
  ⟨(some 30), (some (28, true)), [], false, .ld false 1 (.t 29)⟩,
  ⟨(some 31), (some (28, true)), [], false, .bin .eql .other (.t 30) (.c (.int .u8 6))⟩,
  ⟨(some 32), none, [], false, .pick (.t 28) (.t 31) (.c (.bool false))⟩,
  ⟨(some 18), none, [], false, .mv (.t 32)⟩]
def f44r4 : List I := [⟨(some 33), none, [], false, .fad 3 (.t 4)⟩,
  ⟨(some 34), none, [], false, .ld true 4 (.t 33)⟩,
  ⟨none, none, [], false, .st 4 (.t 6) (.t 34)⟩,
  ⟨(some 7), none, [], false, .mv (.c (nilS))⟩,
  ⟨(some 8), none, [], false, .mv (.c (.int .i64 0))⟩]
def f44r5 : List I := [⟨(some 36), none, [], false, .mv (.t 9)⟩,
  ⟨(some 37), none, [], false, .mv (.t 36)⟩,
  ⟨(some 38), (some (37, true)), [], false, .fad 0 (.t 5)⟩,
  ⟨(some 39), (some (37, true)), [], false, .ld false 1 (.t 38)⟩,
  ⟨(some 40), (some (37, true)), [], false, .bin .eql .other (.t 39) (.c (.int .u8 4))⟩,
  ⟨(some 41), none, [], false, .pick (.t 37) (.t 40) (.c (.bool false))⟩,
  ⟨(some 35), none, [], false, .mv (.t 41)⟩]
def f44r6 : List I := [⟨(some 42), none, [], false, .fad 2 (.t 5)⟩,
  ⟨none, none, [], false, .st 1 (.t 42) (.c (nilS))⟩]
def f44r7 : List I := [⟨(some 43), none, [], false, .ld true 2 (.t 3)⟩,
  ⟨(some 44), none, [], false, .fad 3 (.t 4)⟩,
  ⟨(some 45), none, [], false, .ld true 4 (.t 44)⟩,
  ⟨(some 46), none, [], false, .fad 0 (.t 5)⟩,
  ⟨(some 47), none, [], false, .ld false 1 (.t 46)⟩,
  ⟨(some 48), none, [], false, .fad 2 (.t 5)⟩,
  ⟨(some 49), none, [], false, .ld false 1 (.t 48)⟩,
  ⟨(some 50), none, [], false, .call 59 [(.t 43), (.t 45), (.t 47), (.t 49)]⟩,
  ⟨(some 51), none, [], false, .ext 0 (.t 50)⟩,
  ⟨(some 52), none, [], false, .ext 1 (.t 50)⟩,
  ⟨(some 53), none, [], false, .ext 2 (.t 50)⟩,
  ⟨none, none, [], false, .st 4 (.t 6) (.t 51)⟩,
  ⟨(some 7), none, [], false, .mv (.t 52)⟩,
  ⟨(some 8), none, [], false, .mv (.t 53)⟩]
def f44 : Fn := ⟨[0, 1, 2, 3, 4, 5, 6, 7, 8, 9, 18, 35], (.seq (.reg false f44r0) (.seq (.reg false f44r1) (.seq (.block 0 (.seq (.seq (.reg false f44r2) (.cond (.t 18) .skip (.reg false f44r3))) (.cond (.t 18) (.seq (.reg false f44r4) .ret) (.seq (.reg false f44r5) (.cond (.t 35) (.reg false f44r6) .skip))))) (.seq (.reg false f44r7) .ret)))), [.cell 6 true 4, .tmp 7, .tmp 8]⟩
/-! 45: (*sync/atomic.Int64).Add -/
def f45r0 : List I := [⟨(some 4), none, [], false, .mv (.c (.int .i64 0))⟩]
def f45r1 : List I := [⟨(some 5), none, [], false, .mv (.t 0)⟩,
  ⟨(some 6), none, [], false, .nck (.t 5)⟩,
  ⟨(some 7), none, [], false, .fad 0 (.t 6)⟩,
  ⟨(some 8), none, [], false, .mv (.t 1)⟩,
  ⟨(some 9), none, [], false, .call 60 [(.t 7), (.t 8)]⟩,
  ⟨(some 4), none, [], false, .mv (.t 9)⟩]
def f45 : Fn := ⟨[0, 1, 4], (.seq (.reg false f45r0) (.seq (.reg false f45r1) .ret)), [.tmp 4]⟩
/-! 46: (*stolon/db.work).put -/
def f46r0 : List I := [⟨(some 3), none, [], false, .box (.t 1)⟩]
def f46r1 : List I := [⟨(some 8), none, [], false, .mv (.t 0)⟩,
  ⟨(some 9), none, [], false, .nck (.t 8)⟩,
  ⟨(some 10), none, [], false, .fad 0 (.t 9)⟩,
  ⟨(some 11), none, [], false, .ld true 4 (.t 10)⟩,
  ⟨(some 12), none, [], false, .ld true 7 (.t 3)⟩,
  ⟨(some 13), none, [], false, .call 42 [(.t 12)]⟩,
  ⟨(some 14), none, [], false, .call 36 [(.t 11), (.t 13)]⟩,
  ⟨(some 7), none, [], false, .mv (.t 14)⟩,
  ⟨(some 15), none, [], false, .ext 0 (.t 7)⟩,
  ⟨(some 16), none, [], false, .ext 1 (.t 7)⟩,
  ⟨(some 4), none, [], false, .mv (.t 15)⟩,
  ⟨(some 5), none, [], false, .mv (.t 16)⟩]
def f46r2 : List I := [⟨(some 17), none, [], false, .mv (.t 0)⟩,
  ⟨(some 18), none, [], false, .nck (.t 17)⟩,
  ⟨(some 19), none, [], false, .fad 0 (.t 18)⟩,
  ⟨(some 20), none, [], false, .fad 3 (.t 19)⟩,
  ⟨(some 21), none, [], false, .ld false 1 (.t 20)⟩,
  ⟨(some 22), none, [], false, .call 61 [(.t 21)]⟩,
  ⟨(some 6), none, [], false, .mv (.t 22)⟩]
def f46r3 : List I := [⟨(some 24), none, [], false, .mv (.t 5)⟩,
  ⟨(some 25), none, [], false, .un .not (.t 24)⟩,
  ⟨(some 26), none, [], false, .mv (.t 25)⟩,
  ⟨(some 27), (some (26, true)), [], false, .fad 3 (.t 3)⟩,
  ⟨(some 28), (some (26, true)), [], false, .ld true 4 (.t 27)⟩,
  ⟨(some 29), (some (26, true)), [], false, .call 39 [(.t 28)]⟩,
  ⟨(some 30), none, [], false, .pick (.t 26) (.t 29) (.c (.bool false))⟩,
  ⟨(some 23), none, [], false, .mv (.t 30)⟩]
def f46r4 : List I := [⟨(some 31), none, [], false, .mv (.t 6)⟩,
  ⟨(some 32), none, [], false, .mv (.t 4)⟩,
  ⟨(some 33), none, [], false, .ld true 7 (.t 3)⟩,
  ⟨(some 34), none, [], false, .bslice 7 1 [.int .i64 0, .int .i64 0, .int .i64 0, .int .u32 0, .bool false, .int .i64 0, nilS] [(0, 7, (.t 33))]⟩,
  ⟨(some 35), none, [], false, .call 62 [(.t 31), (.t 32), (.t 34)]⟩,
  ⟨(some 6), none, [], false, .mv (.t 35)⟩]
def f46r5 : List I := [⟨(some 37), none, [], false, .mv (.t 5)⟩,
  ⟨(some 38), none, [], false, .mv (.t 37)⟩,
  ⟨(some 39), (some (38, true)), [], false, .fad 3 (.t 3)⟩,
  ⟨(some 40), (some (38, true)), [], false, .ld true 4 (.t 39)⟩,
  ⟨(some 41), (some (38, true)), [], false, .call 39 [(.t 40)]⟩,
  ⟨(some 42), none, [], false, .pick (.t 38) (.t 41) (.c (.bool false))⟩,
  ⟨(some 36), none, [], false, .mv (.t 42)⟩]
def f46r6 : List I := [⟨(some 43), none, [], false, .mv (.t 6)⟩,
  ⟨(some 44), none, [], false, .mv (.t 4)⟩,
  ⟨(some 45), none, [], false, .ld true 7 (.t 3)⟩,
  ⟨(some 46), none, [], false, .iad 7 none (.t 43) (.t 44)⟩,
  ⟨none, none, [], false, .st 7 (.t 46) (.t 45)⟩]
def f46r7 : List I := [⟨(some 48), none, [], false, .mv (.t 5)⟩,
  ⟨(some 47), none, [], false, .mv (.t 48)⟩]
def f46r8 : List I := [⟨(some 49), none, [], false, .mv (.t 6)⟩,
  ⟨(some 50), none, [], false, .mv (.t 4)⟩,
  ⟨(some 51), none, [], false, .mv (.t 4)⟩,
  ⟨(some 52), none, [], false, .bin .add .other (.t 51) (.c (.int .i64 1))⟩,
  ⟨(some 53), none, [], false, .call 63 [(.t 49), (.t 50), (.t 52)]⟩,
  ⟨(some 6), none, [], false, .mv (.t 53)⟩]
def f46r9 : List I := [⟨(some 54), none, [], false, .mv (.t 0)⟩,
  ⟨(some 55), none, [], false, .mv (.t 6)⟩,
  ⟨(some 56), none, [], false, .nck (.t 54)⟩,
  ⟨(some 57), none, [], false, .fad 0 (.t 56)⟩,
  ⟨(some 58), none, [], false, .fad 3 (.t 57)⟩,
  ⟨none, none, [], false, .st 1 (.t 58) (.t 55)⟩]
def f46 : Fn := ⟨[0, 1, 3, 4, 5, 6, 23, 36, 47], (.seq (.reg false f46r0) (.seq (.reg true f46r1) (.seq (.reg false f46r2) (.seq (.block 0 (.seq (.reg false f46r3) (.cond (.t 23) (.reg false f46r4) (.seq (.reg false f46r5) (.cond (.t 36) (.reg false f46r6) (.seq (.reg false f46r7) (.cond (.t 47) (.reg false f46r8) .skip))))))) (.reg false f46r9))))), []⟩
/-! 48: stolon/stolonref09.find -/
def f48r0 : List I := [⟨(some 3), none, [], false, .box (.t 0)⟩,
  ⟨(some 6), none, [], false, .alloc [.int .i64 0, .int .i64 0, .int .i64 0, .int .u32 0, .bool false, .int .i64 0, nilS]⟩,
  ⟨(some 7), none, [], false, .mv (.c (.bool false))⟩]
def f48r1 : List I := [⟨(some 8), none, [], false, .mv (.c (.int .i64 0))⟩]
def f48r2 : List I := [⟨(some 9), none, [], false, .mv (.t 8)⟩,
  ⟨(some 10), none, [], false, .fad 3 (.t 3)⟩,
  ⟨(some 11), none, [], false, .ld false 1 (.t 10)⟩,
  ⟨(some 12), none, [], false, .len (.t 11)⟩,
  ⟨(some 13), none, [], false, .bin .lss .other (.t 9) (.t 12)⟩]
def f48r3 : List I := [⟨(some 16), none, [], false, .fad 3 (.t 3)⟩,
  ⟨(some 17), none, [], false, .ld false 1 (.t 16)⟩,
  ⟨(some 18), none, [], false, .mv (.t 8)⟩,
  ⟨(some 19), none, [], false, .iad 7 none (.t 17) (.t 18)⟩,
  ⟨(some 20), none, [], false, .fad 0 (.t 19)⟩,
  ⟨(some 21), none, [], false, .ld false 1 (.t 20)⟩,
  ⟨(some 22), none, [], false, .mv (.t 1)⟩,
  ⟨(some 23), none, [], false, .bin .eql .other (.t 21) (.t 22)⟩,
  ⟨(some 24), none, [], false, .mv (.t 23)⟩,
  ⟨(some 25), (some (24, true)), [], false, .fad 3 (.t 3)⟩,
  ⟨(some 26), (some (24, true)), [], false, .ld false 1 (.t 25)⟩,
  ⟨(some 27), (some (24, true)), [], false, .mv (.t 8)⟩,
  ⟨(some 28), (some (24, true)), [], false, .iad 7 none (.t 26) (.t 27)⟩,
  ⟨(some 29), (some (24, true)), [], false, .fad 3 (.t 28)⟩,
  ⟨(some 30), (some (24, true)), [], false, .fad 0 (.t 29)⟩,
  ⟨(some 31), (some (24, true)), [], false, .ld false 1 (.t 30)⟩,
  ⟨(some 32), (some (24, true)), [], false, .mv (.t 2)⟩,
  ⟨(some 33), (some (24, true)), [], false, .bin .eql .other (.t 31) (.t 32)⟩,
  ⟨(some 34), none, [], false, .pick (.t 24) (.t 33) (.c (.bool false))⟩]
def f48r4 : List I := [⟨(some 35), none, [], false, .fad 3 (.t 3)⟩,
  ⟨(some 36), none, [], false, .ld false 1 (.t 35)⟩,
  ⟨(some 37), none, [], false, .mv (.t 8)⟩,
  ⟨(some 38), none, [], false, .iad 7 none (.t 36) (.t 37)⟩,
  ⟨(some 39), none, [], false, .ld true 7 (.t 38)⟩,
  ⟨none, none, [], false, .st 7 (.t 6) (.t 39)⟩,
  ⟨(some 7), none, [], false, .mv (.c (.bool true))⟩]
def f48r5 : List I := [⟨(some 14), none, [], false, .mv (.t 8)⟩,
  ⟨(some 15), none, [], false, .bin .add .other (.t 14) (.c (.int .i64 1))⟩,
  ⟨(some 8), none, [], false, .mv (.t 15)⟩]
def f48l0 : C := (.seq (.seq (.reg false f48r2) (.cond (.t 13) .skip (.exit 0))) (.seq (.block 1 (.seq (.reg false f48r3) (.cond (.t 34) (.seq (.reg false f48r4) .ret) .skip))) (.reg false f48r5)))
def f48r6 : List I := [⟨(some 40), none, [], false, .mv (.t 1)⟩,
  ⟨(some 41), none, [], false, .mv (.t 2)⟩,
  ⟨(some 42), none, [], false, .build [.int .u32 0, .bool false, .int .i64 0, nilS] [(0, 1, (.t 41))]⟩,
  ⟨(some 43), none, [], false, .build [.int .i64 0, .int .i64 0, .int .i64 0, .int .u32 0, .bool false, .int .i64 0, nilS] [(0, 1, (.t 40)), (3, 4, (.t 42))]⟩,
  ⟨none, none, [], false, .st 7 (.t 6) (.t 43)⟩,
  ⟨(some 7), none, [], false, .mv (.c (.bool false))⟩]
def f48 : Fn := ⟨[0, 1, 2, 3, 6, 7, 8, 13, 34], (.seq (.reg false f48r0) (.seq (.seq (.reg false f48r1) (.block 0 (.loop f48l0))) (.seq (.reg false f48r6) .ret))), [.cell 6 true 7, .tmp 7]⟩
/-! 49: stolon/stolonref08.Hear -/
def f49r0 : List I := [⟨(some 4), none, [], false, .box (.t 0)⟩,
  ⟨(some 5), none, [], false, .box (.t 1)⟩,
  ⟨(some 8), none, [], false, .alloc [.int .u32 0, .bool false, .int .i64 0, nilS]⟩,
  ⟨(some 9), none, [], false, .mv (.c (nilS))⟩,
  ⟨(some 10), none, [], false, .mv (.c (.int .i64 0))⟩]
def f49r1 : List I := [⟨(some 13), none, [], false, .mv (.t 2)⟩,
  ⟨(some 14), none, [], false, .bin .lss .other (.t 13) (.c (.int .u8 1))⟩,
  ⟨(some 15), none, [], false, .mv (.t 14)⟩,
  ⟨(some 16), (some (15, false)), [], false, .mv (.t 2)⟩,
  ⟨(some 17), (some (15, false)), [], false, .bin .gtr .other (.t 16) (.c (.int .u8 6))⟩,
  ⟨(some 18), none, [], false, .pick (.t 15) (.c (.bool true)) (.t 17)⟩]
def f49r2 : List I := [⟨(some 19), none, [], false, .ld true 4 (.t 5)⟩,
  ⟨none, none, [], false, .st 4 (.t 8) (.t 19)⟩,
  ⟨(some 9), none, [], false, .mv (.c (nilS))⟩,
  ⟨(some 10), none, [], false, .mv (.c (.int .i64 1))⟩]
def f49r3 : List I := [⟨(some 20), none, [], false, .mv (.t 3)⟩,
  ⟨(some 21), none, [], false, .call 64 [(.t 20)]⟩,
  ⟨(some 11), none, [], false, .mv (.t 21)⟩]
def f49r4 : List I := [⟨(some 22), none, [], false, .ld true 2 (.t 4)⟩,
  ⟨(some 23), none, [], false, .ld true 4 (.t 5)⟩,
  ⟨(some 24), none, [], false, .mv (.t 2)⟩,
  ⟨(some 25), none, [], false, .mv (.t 11)⟩,
  ⟨(some 26), none, [], false, .call 65 [(.t 22), (.t 23), (.t 24), (.t 25)]⟩,
  ⟨(some 12), none, [], false, .alloc [nilS, .bool false, .int .i64 0, nilS]⟩,
  ⟨none, none, [], false, .st 4 (.t 12) (.t 26)⟩]
def f49r5 : List I := [⟨(some 27), none, [], false, .fad 1 (.t 5)⟩,
  ⟨(some 28), none, [], false, .ld false 1 (.t 27)⟩]
def f49r6 : List I := [⟨(some 29), none, [], false, .ld true 2 (.t 4)⟩,
  ⟨(some 30), none, [], false, .ld true 4 (.t 5)⟩,
  ⟨(some 31), none, [], false, .mv (.t 2)⟩,
  ⟨(some 32), none, [], false, .mv (.t 11)⟩,
  ⟨(some 33), none, [], false, .call 66 [(.t 29), (.t 30), (.t 31), (.t 32)]⟩,
  ⟨none, none, [], false, .st 4 (.t 12) (.t 33)⟩]
def f49r7 : List I := [⟨(some 34), none, [], false, .fad 0 (.t 12)⟩,
  ⟨(some 35), none, [], false, .ld false 1 (.t 34)⟩,
  ⟨(some 36), none, [], false, .len (.t 35)⟩,
  ⟨(some 37), none, [], false, .bin .gtr .other (.t 36) (.c (.int .i64 64))⟩]
def f49r8 : List I := [⟨(some 38), none, [], false, .ld true 4 (.t 5)⟩,
  ⟨none, none, [], false, .st 4 (.t 8) (.t 38)⟩,
  ⟨(some 9), none, [], false, .mv (.c (nilS))⟩,
  ⟨(some 10), none, [], false, .mv (.c (.int .i64 7))⟩]
def f49r9 : List I := [⟨(some 39), none, [], false, .fad 0 (.t 5)⟩,
  ⟨(some 40), none, [], false, .ld false 1 (.t 39)⟩,
  ⟨(some 41), none, [], false, .fad 1 (.t 12)⟩,
  ⟨(some 42), none, [], false, .ld false 1 (.t 41)⟩,
  ⟨(some 43), none, [], false, .fad 2 (.t 12)⟩,
  ⟨(some 44), none, [], false, .ld false 1 (.t 43)⟩,
  ⟨(some 45), none, [], false, .fad 0 (.t 12)⟩,
  ⟨(some 46), none, [], false, .ld false 1 (.t 45)⟩,
  ⟨(some 47), none, [], false, .build [.int .u32 0, .bool false, .int .i64 0, nilS] [(0, 1, (.t 40)), (1, 1, (.t 42)), (2, 1, (.t 44)), (3, 1, (.t 46))]⟩,
  ⟨none, none, [], false, .st 4 (.t 8) (.t 47)⟩,
  ⟨(some 48), none, [], false, .fad 3 (.t 12)⟩,
  ⟨(some 49), none, [], true, .ld false 1 (.t 48)⟩,
  ⟨(some 9), none, [], false, .mv (.t 49)⟩,
  ⟨(some 10), none, [], false, .mv (.c (.int .i64 0))⟩]
def f49 : Fn := ⟨[0, 1, 2, 3, 4, 5, 8, 9, 10, 11, 12, 18, 28, 37], (.seq (.reg false f49r0) (.seq (.seq (.reg false f49r1) (.cond (.t 18) (.seq (.reg false f49r2) .ret) .skip)) (.seq (.reg false f49r3) (.seq (.reg false f49r4) (.seq (.seq (.reg false f49r5) (.cond (.t 28) (.reg false f49r6) .skip)) (.seq (.seq (.reg false f49r7) (.cond (.t 37) (.seq (.reg false f49r8) .ret) .skip)) (.seq (.reg true f49r9) .ret))))))), [.cell 8 true 4, .tmp 9, .tmp 10]⟩
/-! 50: stolon/stolonref09.put -/
def f50r0 : List I := [⟨(some 2), none, [], false, .box (.t 0)⟩,
  ⟨(some 3), none, [], false, .box (.t 1)⟩,
  ⟨(some 4), none, [], false, .alloc [.int .i64 0, .int .i64 0, .int .i64 0, nilS]⟩]
def f50r1 : List I := [⟨(some 9), none, [], false, .fad 0 (.t 2)⟩,
  ⟨(some 10), none, [], false, .ld true 2 (.t 9)⟩,
  ⟨(some 11), none, [], false, .fad 2 (.t 2)⟩,
  ⟨(some 12), none, [], false, .ld false 1 (.t 11)⟩,
  ⟨(some 13), none, [], false, .build [.int .i64 0, .int .i64 0, .int .i64 0, nilS] [(0, 2, (.t 10)), (2, 1, (.t 12))]⟩,
  ⟨(some 5), none, [], false, .alloc [.int .i64 0, .int .i64 0, .int .i64 0, nilS]⟩,
  ⟨none, none, [], false, .st 4 (.t 5) (.t 13)⟩]
def f50r2 : List I := [⟨(some 14), none, [], false, .fad 3 (.t 3)⟩,
  ⟨(some 15), none, [], false, .ld true 4 (.t 14)⟩,
  ⟨(some 16), none, [], false, .call 25 [(.t 15)]⟩,
  ⟨(some 17), none, [], false, .un .not (.t 16)⟩,
  ⟨(some 6), none, [], false, .mv (.t 17)⟩]
def f50r3 : List I := [⟨(some 7), none, [], false, .mv (.c (.int .i64 0))⟩]
def f50r4 : List I := [⟨(some 18), none, [], false, .mv (.t 7)⟩,
  ⟨(some 19), none, [], false, .fad 3 (.t 2)⟩,
  ⟨(some 20), none, [], false, .ld false 1 (.t 19)⟩,
  ⟨(some 21), none, [], false, .len (.t 20)⟩,
  ⟨(some 22), none, [], false, .bin .lss .other (.t 18) (.t 21)⟩]
def f50r5 : List I := [⟨(some 25), none, [], false, .fad 3 (.t 2)⟩,
  ⟨(some 26), none, [], false, .ld false 1 (.t 25)⟩,
  ⟨(some 27), none, [], false, .mv (.t 7)⟩,
  ⟨(some 28), none, [], false, .iad 7 none (.t 26) (.t 27)⟩,
  ⟨(some 29), none, [], false, .ld true 7 (.t 28)⟩,
  ⟨(some 8), none, [], false, .alloc [.int .i64 0, .int .i64 0, .int .i64 0, .int .u32 0, .bool false, .int .i64 0, nilS]⟩,
  ⟨none, none, [], false, .st 7 (.t 8) (.t 29)⟩]
def f50r6 : List I := [⟨(some 30), none, [], false, .mv (.t 6)⟩,
  ⟨(some 31), none, [], false, .un .not (.t 30)⟩,
  ⟨(some 32), none, [], false, .mv (.t 31)⟩,
  ⟨(some 33), (some (32, true)), [], false, .fad 0 (.t 8)⟩,
  ⟨(some 34), (some (32, true)), [], false, .ld false 1 (.t 33)⟩,
  ⟨(some 35), (some (32, true)), [], false, .fad 0 (.t 3)⟩,
  ⟨(some 36), (some (32, true)), [], false, .ld false 1 (.t 35)⟩,
  ⟨(some 37), (some (32, true)), [], false, .bin .gtr .other (.t 34) (.t 36)⟩,
  ⟨(some 38), (some (32, true)), [], false, .mv (.t 37)⟩,
  ⟨(some 39), (some (38, false)), [], false, .fad 0 (.t 8)⟩,
  ⟨(some 40), (some (38, false)), [], false, .ld false 1 (.t 39)⟩,
  ⟨(some 41), (some (38, false)), [], false, .fad 0 (.t 3)⟩,
  ⟨(some 42), (some (38, false)), [], false, .ld false 1 (.t 41)⟩,
  ⟨(some 43), (some (38, false)), [], false, .bin .eql .other (.t 40) (.t 42)⟩,
  ⟨(some 44), (some (38, false)), [], false, .mv (.t 43)⟩,
  ⟨(some 45), (some (44, true)), [], false, .fad 3 (.t 8)⟩,
  ⟨(some 46), (some (44, true)), [], false, .fad 0 (.t 45)⟩,
  ⟨(some 47), (some (44, true)), [], false, .ld false 1 (.t 46)⟩,
  ⟨(some 48), (some (44, true)), [], false, .fad 3 (.t 3)⟩,
  ⟨(some 49), (some (44, true)), [], false, .fad 0 (.t 48)⟩,
  ⟨(some 50), (some (44, true)), [], false, .ld false 1 (.t 49)⟩,
  ⟨(some 51), (some (44, true)), [], false, .bin .geq .other (.t 47) (.t 50)⟩,
  ⟨(some 52), (some (38, false)), [], false, .pick (.t 44) (.t 51) (.c (.bool false))⟩,
  ⟨(some 53), (some (32, true)), [], false, .pick (.t 38) (.c (.bool true)) (.t 52)⟩,
  ⟨(some 54), none, [], false, .pick (.t 32) (.t 53) (.c (.bool false))⟩]
def f50r7 : List I := [⟨(some 55), none, [], false, .fad 3 (.t 5)⟩,
  ⟨(some 56), none, [], false, .ld false 1 (.t 55)⟩,
  ⟨(some 57), none, [], false, .ld true 7 (.t 3)⟩,
  ⟨(some 58), none, [], false, .bslice 7 1 [.int .i64 0, .int .i64 0, .int .i64 0, .int .u32 0, .bool false, .int .i64 0, nilS] [(0, 7, (.t 57))]⟩,
  ⟨(some 59), none, [], false, .app 7 64 (.t 56) (.t 58)⟩,
  ⟨(some 60), none, [], false, .fad 3 (.t 5)⟩,
  ⟨none, none, [], false, .st 1 (.t 60) (.t 59)⟩]
def f50r8 : List I := [⟨(some 6), none, [], false, .mv (.c (.bool true))⟩]
def f50r9 : List I := [⟨(some 61), none, [], false, .fad 0 (.t 8)⟩,
  ⟨(some 62), none, [], false, .ld false 1 (.t 61)⟩,
  ⟨(some 63), none, [], false, .fad 0 (.t 3)⟩,
  ⟨(some 64), none, [], false, .ld false 1 (.t 63)⟩,
  ⟨(some 65), none, [], false, .bin .neq .other (.t 62) (.t 64)⟩,
  ⟨(some 66), none, [], false, .mv (.t 65)⟩,
  ⟨(some 67), (some (66, false)), [], false, .fad 3 (.t 8)⟩,
  ⟨(some 68), (some (66, false)), [], false, .fad 0 (.t 67)⟩,
  ⟨(some 69), (some (66, false)), [], false, .ld false 1 (.t 68)⟩,
  ⟨(some 70), (some (66, false)), [], false, .fad 3 (.t 3)⟩,
  ⟨(some 71), (some (66, false)), [], false, .fad 0 (.t 70)⟩,
  ⟨(some 72), (some (66, false)), [], false, .ld false 1 (.t 71)⟩,
  ⟨(some 73), (some (66, false)), [], false, .bin .neq .other (.t 69) (.t 72)⟩,
  ⟨(some 74), none, [], false, .pick (.t 66) (.c (.bool true)) (.t 73)⟩]
def f50r10 : List I := [⟨(some 75), none, [], false, .fad 3 (.t 5)⟩,
  ⟨(some 76), none, [], false, .ld false 1 (.t 75)⟩,
  ⟨(some 77), none, [], false, .ld true 7 (.t 8)⟩,
  ⟨(some 78), none, [], false, .bslice 7 1 [.int .i64 0, .int .i64 0, .int .i64 0, .int .u32 0, .bool false, .int .i64 0, nilS] [(0, 7, (.t 77))]⟩,
  ⟨(some 79), none, [], false, .app 7 64 (.t 76) (.t 78)⟩,
  ⟨(some 80), none, [], false, .fad 3 (.t 5)⟩,
  ⟨none, none, [], false, .st 1 (.t 80) (.t 79)⟩]
def f50r11 : List I := [⟨(some 23), none, [], false, .mv (.t 7)⟩,
  ⟨(some 24), none, [], false, .bin .add .other (.t 23) (.c (.int .i64 1))⟩,
  ⟨(some 7), none, [], false, .mv (.t 24)⟩]
def f50l0 : C := (.seq (.seq (.reg false f50r4) (.cond (.t 22) .skip (.exit 0))) (.seq (.block 1 (.seq (.reg false f50r5) (.seq (.seq (.reg false f50r6) (.cond (.t 54) (.seq (.reg false f50r7) (.reg false f50r8)) .skip)) (.seq (.reg false f50r9) (.cond (.t 74) (.reg false f50r10) .skip))))) (.reg false f50r11)))
def f50r12 : List I := [⟨(some 81), none, [], false, .mv (.t 6)⟩,
  ⟨(some 82), none, [], false, .un .not (.t 81)⟩]
def f50r13 : List I := [⟨(some 83), none, [], false, .fad 3 (.t 5)⟩,
  ⟨(some 84), none, [], false, .ld false 1 (.t 83)⟩,
  ⟨(some 85), none, [], false, .ld true 7 (.t 3)⟩,
  ⟨(some 86), none, [], false, .bslice 7 1 [.int .i64 0, .int .i64 0, .int .i64 0, .int .u32 0, .bool false, .int .i64 0, nilS] [(0, 7, (.t 85))]⟩,
  ⟨(some 87), none, [], false, .app 7 64 (.t 84) (.t 86)⟩,
  ⟨(some 88), none, [], false, .fad 3 (.t 5)⟩,
  ⟨none, none, [], false, .st 1 (.t 88) (.t 87)⟩]
def f50r14 : List I := [⟨(some 89), none, [], false, .ld true 4 (.t 5)⟩,
  ⟨none, none, [], false, .st 4 (.t 4) (.t 89)⟩]
def f50 : Fn := ⟨[0, 1, 2, 3, 4, 5, 6, 7, 8, 22, 54, 74, 82], (.seq (.reg false f50r0) (.seq (.reg false f50r1) (.seq (.reg false f50r2) (.seq (.seq (.reg false f50r3) (.block 0 (.loop f50l0))) (.seq (.seq (.reg false f50r12) (.cond (.t 82) (.reg false f50r13) .skip)) (.seq (.reg false f50r14) .ret)))))), [.cell 4 true 4]⟩
/-! 51: stolon/stolonref01.Rows -/
def f51r0 : List I := [⟨(some 4), none, [], false, .mv (.c (.bool false))⟩]
def f51r1 : List I := [⟨(some 6), none, [], false, .mv (.t 0)⟩,
  ⟨(some 7), none, [], false, .len (.t 6)⟩,
  ⟨(some 8), none, [], false, .mv (.t 1)⟩,
  ⟨(some 9), none, [], false, .len (.t 8)⟩,
  ⟨(some 10), none, [], false, .bin .neq .other (.t 7) (.t 9)⟩]
def f51r2 : List I := [⟨(some 4), none, [], false, .mv (.c (.bool false))⟩]
def f51r3 : List I := [⟨(some 5), none, [], false, .mv (.c (.int .i64 0))⟩]
def f51r4 : List I := [⟨(some 11), none, [], false, .mv (.t 5)⟩,
  ⟨(some 12), none, [], false, .mv (.t 0)⟩,
  ⟨(some 13), none, [], false, .len (.t 12)⟩,
  ⟨(some 14), none, [], false, .bin .lss .other (.t 11) (.t 13)⟩]
def f51r5 : List I := [⟨(some 17), none, [], false, .mv (.t 0)⟩,
  ⟨(some 18), none, [], false, .mv (.t 5)⟩,
  ⟨(some 19), none, [], false, .iad 1 none (.t 17) (.t 18)⟩,
  ⟨(some 20), none, [], false, .ld false 1 (.t 19)⟩,
  ⟨(some 21), none, [], false, .mv (.t 1)⟩,
  ⟨(some 22), none, [], false, .mv (.t 5)⟩,
  ⟨(some 23), none, [], false, .iad 1 none (.t 21) (.t 22)⟩,
  ⟨(some 24), none, [], false, .ld false 1 (.t 23)⟩,
  ⟨(some 25), none, [], false, .bin .neq .other (.t 20) (.t 24)⟩]
def f51r6 : List I := [⟨(some 4), none, [], false, .mv (.c (.bool false))⟩]
def f51r7 : List I := [⟨(some 15), none, [], false, .mv (.t 5)⟩,
  ⟨(some 16), none, [], false, .bin .add .other (.t 15) (.c (.int .i64 1))⟩,
  ⟨(some 5), none, [], false, .mv (.t 16)⟩]
def f51l0 : C := (.seq (.seq (.reg false f51r4) (.cond (.t 14) .skip (.exit 0))) (.seq (.block 1 (.seq (.reg true f51r5) (.cond (.t 25) (.seq (.reg false f51r6) .ret) .skip))) (.reg false f51r7)))
def f51r8 : List I := [⟨(some 4), none, [], false, .mv (.c (.bool true))⟩]
def f51 : Fn := ⟨[0, 1, 4, 5, 10, 14, 25], (.seq (.reg false f51r0) (.seq (.seq (.reg false f51r1) (.cond (.t 10) (.seq (.reg false f51r2) .ret) .skip)) (.seq (.seq (.reg false f51r3) (.block 0 (.loop f51l0))) (.seq (.reg false f51r8) .ret)))), [.tmp 4]⟩
/-! 52: slices.BinarySearchFunc[[]stolon/api.Place,stolon/api.Place,stolon/db.key] -/
def f52r0 : List I := [⟨(some 4), none, [], false, .box (.t 1)⟩,
  ⟨(some 6), none, [], false, .mv (.c (.int .i64 0))⟩,
  ⟨(some 7), none, [], false, .mv (.c (.bool false))⟩]
def f52r1 : List I := [⟨(some 12), none, [], false, .mv (.t 0)⟩,
  ⟨(some 13), none, [], false, .len (.t 12)⟩,
  ⟨(some 8), none, [], false, .mv (.t 13)⟩]
def f52r2 : List I := [⟨(some 14), none, [], false, .mv (.t 8)⟩,
  ⟨(some 9), none, [], false, .mv (.c (.int .i64 0))⟩,
  ⟨(some 10), none, [], false, .mv (.t 14)⟩]
def f52r3 : List I := [⟨(some 15), none, [], false, .mv (.t 9)⟩,
  ⟨(some 16), none, [], false, .mv (.t 10)⟩,
  ⟨(some 17), none, [], false, .bin .lss .other (.t 15) (.t 16)⟩]
def f52r4 : List I := [⟨(some 18), none, [], false, .mv (.t 9)⟩,
  ⟨(some 19), none, [], false, .mv (.t 10)⟩,
  ⟨(some 20), none, [], false, .bin .add .other (.t 18) (.t 19)⟩,
  ⟨(some 21), none, [], false, .conv .u64 (.t 20)⟩,
  ⟨(some 22), none, [], false, .bin .shr .other (.t 21) (.c (.int .u64 1))⟩,
  ⟨(some 23), none, [], false, .conv .i64 (.t 22)⟩,
  ⟨(some 11), none, [], false, .mv (.t 23)⟩]
def f52r5 : List I := [⟨(some 24), none, [], false, .mv (.t 2)⟩,
  ⟨(some 25), none, [], false, .mv (.t 0)⟩,
  ⟨(some 26), none, [], false, .mv (.t 11)⟩,
  ⟨(some 27), none, [], false, .iad 7 none (.t 25) (.t 26)⟩,
  ⟨(some 28), none, [], false, .ld true 7 (.t 27)⟩,
  ⟨(some 29), none, [], false, .ld true 2 (.t 4)⟩,
  ⟨(some 30), none, [], false, .ccall (.t 24) [(.t 28), (.t 29)]⟩,
  ⟨(some 31), none, [], false, .bin .lss .other (.t 30) (.c (.int .i64 0))⟩]
def f52r6 : List I := [⟨(some 32), none, [], false, .mv (.t 11)⟩,
  ⟨(some 33), none, [], false, .bin .add .other (.t 32) (.c (.int .i64 1))⟩,
  ⟨(some 9), none, [], false, .mv (.t 33)⟩]
def f52r7 : List I := [⟨(some 34), none, [], false, .mv (.t 11)⟩,
  ⟨(some 10), none, [], false, .mv (.t 34)⟩]
def f52l0 : C := (.seq (.seq (.reg false f52r3) (.cond (.t 17) .skip (.exit 0))) (.block 1 (.seq (.reg false f52r4) (.seq (.reg true f52r5) (.cond (.t 31) (.reg false f52r6) (.reg false f52r7))))))
def f52r8 : List I := [⟨(some 35), none, [], false, .mv (.t 9)⟩,
  ⟨(some 36), none, [], false, .mv (.t 9)⟩,
  ⟨(some 37), none, [], false, .mv (.t 8)⟩,
  ⟨(some 38), none, [], false, .bin .lss .other (.t 36) (.t 37)⟩,
  ⟨(some 39), none, [], false, .mv (.t 38)⟩,
  ⟨(some 40), (some (39, true)), [], false, .mv (.t 2)⟩,
  ⟨(some 41), (some (39, true)), [], false, .mv (.t 0)⟩,
  ⟨(some 42), (some (39, true)), [], false, .mv (.t 9)⟩,
  ⟨(some 43), (some (39, true)), [], false, .iad 7 none (.t 41) (.t 42)⟩,
  ⟨(some 44), (some (39, true)), [], false, .ld true 7 (.t 43)⟩,
  ⟨(some 45), (some (39, true)), [], false, .ld true 2 (.t 4)⟩,
  ⟨(some 46), (some (39, true)), [], false, .ccall (.t 40) [(.t 44), (.t 45)]⟩,
  ⟨(some 47), (some (39, true)), [], false, .bin .eql .other (.t 46) (.c (.int .i64 0))⟩,
  ⟨(some 48), none, [], false, .pick (.t 39) (.t 47) (.c (.bool false))⟩,
  ⟨(some 6), none, [], false, .mv (.t 35)⟩,
  ⟨(some 7), none, [], false, .mv (.t 48)⟩]
def f52 : Fn := ⟨[0, 1, 2, 4, 6, 7, 8, 9, 10, 11, 17, 31], (.seq (.reg false f52r0) (.seq (.reg false f52r1) (.seq (.reg false f52r2) (.seq (.block 0 (.loop f52l0)) (.seq (.reg true f52r8) .ret))))), [.tmp 6, .tmp 7]⟩
/-! 53: stolon/memb.place -/
def f53r0 : List I := [⟨(some 4), none, [], false, .mv (.c (.int .i64 0))⟩,
  ⟨(some 5), none, [], false, .mv (.c (.bool false))⟩]
def f53r1 : List I := [⟨(some 6), none, [], false, .mv (.t 0)⟩,
  ⟨(some 7), none, [], false, .mv (.t 1)⟩,
  ⟨(some 8), none, [], false, .call 67 [(.t 6), (.t 7), (.c (.fn 68 []))]⟩,
  ⟨(some 9), none, [], false, .ext 0 (.t 8)⟩,
  ⟨(some 10), none, [], false, .ext 1 (.t 8)⟩,
  ⟨(some 4), none, [], false, .mv (.t 9)⟩,
  ⟨(some 5), none, [], false, .mv (.t 10)⟩]
def f53 : Fn := ⟨[0, 1, 4, 5], (.seq (.reg false f53r0) (.seq (.reg false f53r1) .ret)), [.tmp 4, .tmp 5]⟩
/-! 54: stolon/db.right$1 -/
def f54r0 : List I := [⟨(some 2), none, [], false, .mv (.c (.bool false))⟩]
def f54r1 : List I := [⟨(some 3), none, [], false, .mv (.t 0)⟩,
  ⟨(some 4), none, [], false, .bin .lss .other (.t 3) (.c (.int .i64 0))⟩,
  ⟨(some 5), none, [], false, .mv (.t 4)⟩,
  ⟨(some 6), (some (5, false)), [], false, .mv (.t 0)⟩,
  ⟨(some 7), (some (5, false)), [], false, .bin .gtr .other (.t 6) (.c (.int .i64 1000000))⟩,
  ⟨(some 8), none, [], false, .pick (.t 5) (.c (.bool true)) (.t 7)⟩,
  ⟨(some 2), none, [], false, .mv (.t 8)⟩]
def f54 : Fn := ⟨[0, 2], (.seq (.reg false f54r0) (.seq (.reg false f54r1) .ret)), [.tmp 2]⟩
/-! 55: stolon/memb.Right -/
def f55r0 : List I := [⟨(some 1), none, [], false, .box (.t 0)⟩,
  ⟨(some 2), none, [], false, .mv (.c (.bool false))⟩]
def f55r1 : List I := [⟨(some 3), none, [], false, .mv (.c (.int .i64 1))⟩]
def f55r2 : List I := [⟨(some 7), none, [], false, .fad 1 (.t 1)⟩,
  ⟨(some 8), none, [], false, .ld false 1 (.t 7)⟩]
def f55r3 : List I := [⟨(some 3), none, [], false, .mv (.c (.int .i64 0))⟩]
def f55r4 : List I := [⟨(some 4), none, [], false, .mv (.c (.fn 69 []))⟩]
def f55r5 : List I := [⟨(some 9), none, [], false, .fad 0 (.t 1)⟩,
  ⟨(some 10), none, [], false, .ld false 1 (.t 9)⟩,
  ⟨(some 11), none, [], false, .call 70 [(.t 10)]⟩,
  ⟨(some 12), none, [], false, .un .not (.t 11)⟩,
  ⟨(some 13), none, [], false, .mv (.t 12)⟩,
  ⟨(some 14), (some (13, false)), [], false, .fad 3 (.t 1)⟩,
  ⟨(some 15), (some (13, false)), [], false, .ld false 1 (.t 14)⟩,
  ⟨(some 16), (some (13, false)), [], false, .len (.t 15)⟩,
  ⟨(some 17), (some (13, false)), [], false, .bin .gtr .other (.t 16) (.c (.int .i64 64))⟩,
  ⟨(some 18), none, [], false, .pick (.t 13) (.c (.bool true)) (.t 17)⟩,
  ⟨(some 19), none, [], false, .mv (.t 18)⟩,
  ⟨(some 20), (some (19, false)), [], false, .fad 1 (.t 1)⟩,
  ⟨(some 21), (some (19, false)), [], false, .ld false 1 (.t 20)⟩,
  ⟨(some 22), (some (19, false)), [], false, .mv (.t 21)⟩,
  ⟨(some 23), (some (22, true)), [], false, .mv (.t 4)⟩,
  ⟨(some 24), (some (22, true)), [], false, .fad 2 (.t 1)⟩,
  ⟨(some 25), (some (22, true)), [], false, .ld false 1 (.t 24)⟩,
  ⟨(some 26), (some (22, true)), [], false, .ccall (.t 23) [(.t 25), (.c (.int .i64 1))]⟩,
  ⟨(some 27), (some (19, false)), [], false, .pick (.t 22) (.t 26) (.c (.bool false))⟩,
  ⟨(some 28), none, [], false, .pick (.t 19) (.c (.bool true)) (.t 27)⟩,
  ⟨(some 29), none, [], false, .mv (.t 28)⟩,
  ⟨(some 30), (some (29, false)), [], false, .fad 1 (.t 1)⟩,
  ⟨(some 31), (some (29, false)), [], false, .ld false 1 (.t 30)⟩,
  ⟨(some 32), (some (29, false)), [], false, .un .not (.t 31)⟩,
  ⟨(some 33), (some (29, false)), [], false, .mv (.t 32)⟩,
  ⟨(some 34), (some (33, true)), [], false, .fad 2 (.t 1)⟩,
  ⟨(some 35), (some (33, true)), [], false, .ld false 1 (.t 34)⟩,
  ⟨(some 36), (some (33, true)), [], false, .bin .neq .other (.t 35) (.c (.int .i64 0))⟩,
  ⟨(some 37), (some (29, false)), [], false, .pick (.t 33) (.t 36) (.c (.bool false))⟩,
  ⟨(some 38), none, [], false, .pick (.t 29) (.c (.bool true)) (.t 37)⟩]
def f55r6 : List I := [⟨(some 2), none, [], false, .mv (.c (.bool false))⟩]
def f55r7 : List I := [⟨(some 39), none, [], false, .fad 3 (.t 1)⟩,
  ⟨(some 40), none, [], false, .ld false 1 (.t 39)⟩,
  ⟨(some 41), none, [], false, .len (.t 40)⟩,
  ⟨(some 42), none, [], false, .mv (.c (.int .i64 0))⟩]
def f55r8 : List I := [⟨(some 43), none, [], false, .bin .lss .other (.t 42) (.t 41)⟩]
def f55r9 : List I := [⟨(some 44), none, [], false, .mv (.t 42)⟩,
  ⟨(some 45), none, [], false, .iad 2 none (.t 40) (.t 42)⟩,
  ⟨(some 46), none, [], false, .ld true 2 (.t 45)⟩,
  ⟨(some 6), none, [], false, .alloc [.int .u32 0, .int .i64 0]⟩,
  ⟨(some 5), none, [], false, .mv (.t 44)⟩,
  ⟨none, none, [], false, .st 2 (.t 6) (.t 46)⟩]
def f55r10 : List I := [⟨(some 47), none, [], false, .mv (.t 4)⟩,
  ⟨(some 48), none, [], false, .fad 1 (.t 6)⟩,
  ⟨(some 49), none, [], false, .ld false 1 (.t 48)⟩,
  ⟨(some 50), none, [], false, .mv (.t 3)⟩,
  ⟨(some 51), none, [], false, .ccall (.t 47) [(.t 49), (.t 50)]⟩,
  ⟨(some 52), none, [], false, .mv (.t 51)⟩,
  ⟨(some 53), (some (52, false)), [], false, .mv (.t 5)⟩,
  ⟨(some 54), (some (52, false)), [], false, .bin .gtr .other (.t 53) (.c (.int .i64 0))⟩,
  ⟨(some 55), (some (52, false)), [], false, .mv (.t 54)⟩,
  ⟨(some 56), (some (55, true)), [], false, .fad 3 (.t 1)⟩,
  ⟨(some 57), (some (55, true)), [], false, .ld false 1 (.t 56)⟩,
  ⟨(some 58), (some (55, true)), [], false, .mv (.t 5)⟩,
  ⟨(some 59), (some (55, true)), [], false, .bin .sub .other (.t 58) (.c (.int .i64 1))⟩,
  ⟨(some 60), (some (55, true)), [], false, .iad 2 none (.t 57) (.t 59)⟩,
  ⟨(some 61), (some (55, true)), [], false, .fad 0 (.t 60)⟩,
  ⟨(some 62), (some (55, true)), [], false, .ld false 1 (.t 61)⟩,
  ⟨(some 63), (some (55, true)), [], false, .fad 0 (.t 6)⟩,
  ⟨(some 64), (some (55, true)), [], false, .ld false 1 (.t 63)⟩,
  ⟨(some 65), (some (55, true)), [], false, .bin .geq .other (.t 62) (.t 64)⟩,
  ⟨(some 66), (some (52, false)), [], false, .pick (.t 55) (.t 65) (.c (.bool false))⟩,
  ⟨(some 67), none, [], false, .pick (.t 52) (.c (.bool true)) (.t 66)⟩]
def f55r11 : List I := [⟨(some 2), none, [], false, .mv (.c (.bool false))⟩]
def f55r12 : List I := [⟨(some 68), none, [], false, .bin .add .other (.t 42) (.c (.int .i64 1))⟩,
  ⟨(some 42), none, [], false, .mv (.t 68)⟩]
def f55l0 : C := (.seq (.reg false f55r8) (.seq (.cond (.t 43) .skip (.exit 0)) (.seq (.block 1 (.seq (.reg false f55r9) (.seq (.reg true f55r10) (.cond (.t 67) (.seq (.reg false f55r11) .ret) .skip)))) (.reg false f55r12))))
def f55r13 : List I := [⟨(some 2), none, [], false, .mv (.c (.bool true))⟩]
def f55 : Fn := ⟨[0, 1, 2, 3, 4, 5, 6, 8, 38, 40, 41, 42, 43, 67], (.seq (.reg false f55r0) (.seq (.reg false f55r1) (.seq (.seq (.reg false f55r2) (.cond (.t 8) (.reg false f55r3) .skip)) (.seq (.reg false f55r4) (.seq (.seq (.reg false f55r5) (.cond (.t 38) (.seq (.reg false f55r6) .ret) .skip)) (.seq (.seq (.reg false f55r7) (.block 0 (.loop f55l0))) (.seq (.reg false f55r13) .ret))))))), [.tmp 2]⟩
/-! 56: cmp.Or[int] -/
def f56r0 : List I := [⟨(some 2), none, [], false, .mv (.c (.int .i64 0))⟩]
def f56r1 : List I := [⟨(some 3), none, [], false, .mv (.c (.int .i64 0))⟩]
def f56r2 : List I := [⟨(some 6), none, [], false, .mv (.t 0)⟩,
  ⟨(some 7), none, [], false, .len (.t 6)⟩,
  ⟨(some 8), none, [], false, .mv (.c (.int .i64 0))⟩]
def f56r3 : List I := [⟨(some 9), none, [], false, .bin .lss .other (.t 8) (.t 7)⟩]
def f56r4 : List I := [⟨(some 10), none, [], false, .iad 1 none (.t 6) (.t 8)⟩,
  ⟨(some 11), none, [], false, .ld false 1 (.t 10)⟩,
  ⟨(some 5), none, [], false, .mv (.t 11)⟩]
def f56r5 : List I := [⟨(some 12), none, [], false, .mv (.t 5)⟩,
  ⟨(some 13), none, [], false, .mv (.t 3)⟩,
  ⟨(some 14), none, [], false, .bin .neq .other (.t 12) (.t 13)⟩]
def f56r6 : List I := [⟨(some 15), none, [], false, .mv (.t 5)⟩,
  ⟨(some 2), none, [], false, .mv (.t 15)⟩]
def f56r7 : List I := [⟨(some 16), none, [], false, .bin .add .other (.t 8) (.c (.int .i64 1))⟩,
  ⟨(some 8), none, [], false, .mv (.t 16)⟩]
def f56l0 : C := (.seq (.reg false f56r3) (.seq (.cond (.t 9) .skip (.exit 0)) (.seq (.block 1 (.seq (.reg false f56r4) (.seq (.reg false f56r5) (.cond (.t 14) (.seq (.reg false f56r6) .ret) .skip)))) (.reg false f56r7))))
def f56r8 : List I := [⟨(some 17), none, [], false, .mv (.t 3)⟩,
  ⟨(some 2), none, [], false, .mv (.t 17)⟩]
def f56 : Fn := ⟨[0, 2, 3, 5, 6, 7, 8, 9, 14], (.seq (.reg false f56r0) (.seq (.reg false f56r1) (.seq (.seq (.reg false f56r2) (.block 0 (.loop f56l0))) (.seq (.reg false f56r8) .ret)))), [.tmp 2]⟩

end Go.Ev.S
