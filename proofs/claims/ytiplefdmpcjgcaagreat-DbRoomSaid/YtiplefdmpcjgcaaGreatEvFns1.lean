/- The functions' texts, as the evaluator takes them (printed by a program). -/
import Derived.Test.YtiplefdmpcjgcaaGreatEvDefs
namespace Go.Ev.S
open Go Go.Ev

/-! 57: cmp.Compare[int] -/
def f57r0 : List I := [⟨(some 4), none, [], false, .mv (.c (.int .i64 0))⟩]
def f57r1 : List I := [⟨(some 7), none, [], false, .mv (.t 0)⟩,
  ⟨(some 8), none, [], false, .call 71 [(.t 7)]⟩,
  ⟨(some 5), none, [], false, .mv (.t 8)⟩]
def f57r2 : List I := [⟨(some 9), none, [], false, .mv (.t 1)⟩,
  ⟨(some 10), none, [], false, .call 71 [(.t 9)]⟩,
  ⟨(some 6), none, [], false, .mv (.t 10)⟩]
def f57r3 : List I := [⟨(some 11), none, [], false, .mv (.t 5)⟩]
def f57r4 : List I := [⟨(some 12), none, [], false, .mv (.t 6)⟩]
def f57r5 : List I := [⟨(some 4), none, [], false, .mv (.c (.int .i64 0))⟩]
def f57r6 : List I := [⟨(some 4), none, [], false, .mv (.c (.int .i64 (-1)))⟩]
def f57r7 : List I := [⟨(some 13), none, [], false, .mv (.t 6)⟩]
def f57r8 : List I := [⟨(some 4), none, [], false, .mv (.c (.int .i64 1))⟩]
def f57r9 : List I := [⟨(some 14), none, [], false, .mv (.t 0)⟩,
  ⟨(some 15), none, [], false, .mv (.t 1)⟩,
  ⟨(some 16), none, [], false, .bin .lss .other (.t 14) (.t 15)⟩]
def f57r10 : List I := [⟨(some 4), none, [], false, .mv (.c (.int .i64 (-1)))⟩]
def f57r11 : List I := [⟨(some 17), none, [], false, .mv (.t 0)⟩,
  ⟨(some 18), none, [], false, .mv (.t 1)⟩,
  ⟨(some 19), none, [], false, .bin .gtr .other (.t 17) (.t 18)⟩]
def f57r12 : List I := [⟨(some 4), none, [], false, .mv (.c (.int .i64 1))⟩]
def f57r13 : List I := [⟨(some 4), none, [], false, .mv (.c (.int .i64 0))⟩]
def f57 : Fn := ⟨[0, 1, 4, 5, 6, 11, 12, 13, 16, 19], (.seq (.reg false f57r0) (.seq (.reg false f57r1) (.seq (.reg false f57r2) (.seq (.seq (.reg false f57r3) (.cond (.t 11) (.seq (.seq (.reg false f57r4) (.cond (.t 12) (.seq (.reg false f57r5) .ret) .skip)) (.seq (.reg false f57r6) .ret)) .skip)) (.seq (.seq (.reg false f57r7) (.cond (.t 13) (.seq (.reg false f57r8) .ret) .skip)) (.seq (.seq (.reg false f57r9) (.cond (.t 16) (.seq (.reg false f57r10) .ret) .skip)) (.seq (.seq (.reg false f57r11) (.cond (.t 19) (.seq (.reg false f57r12) .ret) .skip)) (.seq (.reg false f57r13) .ret)))))))), [.tmp 4]⟩
/-! 58: cmp.Compare[stolon/api.Addr] -/
def f58r0 : List I := [⟨(some 4), none, [], false, .mv (.c (.int .i64 0))⟩]
def f58r1 : List I := [⟨(some 7), none, [], false, .mv (.t 0)⟩,
  ⟨(some 8), none, [], false, .call 72 [(.t 7)]⟩,
  ⟨(some 5), none, [], false, .mv (.t 8)⟩]
def f58r2 : List I := [⟨(some 9), none, [], false, .mv (.t 1)⟩,
  ⟨(some 10), none, [], false, .call 72 [(.t 9)]⟩,
  ⟨(some 6), none, [], false, .mv (.t 10)⟩]
def f58r3 : List I := [⟨(some 11), none, [], false, .mv (.t 5)⟩]
def f58r4 : List I := [⟨(some 12), none, [], false, .mv (.t 6)⟩]
def f58r5 : List I := [⟨(some 4), none, [], false, .mv (.c (.int .i64 0))⟩]
def f58r6 : List I := [⟨(some 4), none, [], false, .mv (.c (.int .i64 (-1)))⟩]
def f58r7 : List I := [⟨(some 13), none, [], false, .mv (.t 6)⟩]
def f58r8 : List I := [⟨(some 4), none, [], false, .mv (.c (.int .i64 1))⟩]
def f58r9 : List I := [⟨(some 14), none, [], false, .mv (.t 0)⟩,
  ⟨(some 15), none, [], false, .mv (.t 1)⟩,
  ⟨(some 16), none, [], false, .bin .lss .other (.t 14) (.t 15)⟩]
def f58r10 : List I := [⟨(some 4), none, [], false, .mv (.c (.int .i64 (-1)))⟩]
def f58r11 : List I := [⟨(some 17), none, [], false, .mv (.t 0)⟩,
  ⟨(some 18), none, [], false, .mv (.t 1)⟩,
  ⟨(some 19), none, [], false, .bin .gtr .other (.t 17) (.t 18)⟩]
def f58r12 : List I := [⟨(some 4), none, [], false, .mv (.c (.int .i64 1))⟩]
def f58r13 : List I := [⟨(some 4), none, [], false, .mv (.c (.int .i64 0))⟩]
def f58 : Fn := ⟨[0, 1, 4, 5, 6, 11, 12, 13, 16, 19], (.seq (.reg false f58r0) (.seq (.reg false f58r1) (.seq (.reg false f58r2) (.seq (.seq (.reg false f58r3) (.cond (.t 11) (.seq (.seq (.reg false f58r4) (.cond (.t 12) (.seq (.reg false f58r5) .ret) .skip)) (.seq (.reg false f58r6) .ret)) .skip)) (.seq (.seq (.reg false f58r7) (.cond (.t 13) (.seq (.reg false f58r8) .ret) .skip)) (.seq (.seq (.reg false f58r9) (.cond (.t 16) (.seq (.reg false f58r10) .ret) .skip)) (.seq (.seq (.reg false f58r11) (.cond (.t 19) (.seq (.reg false f58r12) .ret) .skip)) (.seq (.reg false f58r13) .ret)))))))), [.tmp 4]⟩
/-! 59: stolon/memb.Hear -/
def f59r0 : List I := [⟨(some 4), none, [], false, .box (.t 0)⟩,
  ⟨(some 5), none, [], false, .box (.t 1)⟩,
  ⟨(some 8), none, [], false, .alloc [.int .u32 0, .bool false, .int .i64 0, nilS]⟩,
  ⟨(some 9), none, [], false, .mv (.c (nilS))⟩,
  ⟨(some 10), none, [], false, .mv (.c (.int .i64 0))⟩]
def f59r1 : List I := [⟨(some 15), none, [], false, .mkm⟩,
  ⟨none, none, [], false, .mset (.t 15) (.c (.int .u8 1)) (.c (.fn 73 []))⟩,
  ⟨none, none, [], false, .mset (.t 15) (.c (.int .u8 5)) (.c (.fn 73 []))⟩,
  ⟨none, none, [], false, .mset (.t 15) (.c (.int .u8 2)) (.c (.fn 74 []))⟩,
  ⟨none, none, [], false, .mset (.t 15) (.c (.int .u8 6)) (.c (.fn 75 []))⟩,
  ⟨none, none, [], false, .mset (.t 15) (.c (.int .u8 4)) (.c (.fn 76 []))⟩,
  ⟨none, none, [], false, .mset (.t 15) (.c (.int .u8 3)) (.c (.fn 77 []))⟩,
  ⟨(some 16), none, [], false, .mv (.t 15)⟩,
  ⟨(some 11), none, [], false, .mv (.t 16)⟩]
def f59r2 : List I := [⟨(some 18), none, [], false, .mv (.t 11)⟩,
  ⟨(some 19), none, [], false, .mv (.t 2)⟩,
  ⟨(some 20), none, [], false, .look (.nilf) (.t 18) (.t 19) true⟩,
  ⟨(some 17), none, [], false, .mv (.t 20)⟩,
  ⟨(some 21), none, [], false, .ext 0 (.t 17)⟩,
  ⟨(some 22), none, [], false, .ext 1 (.t 17)⟩,
  ⟨(some 12), none, [], false, .mv (.t 21)⟩,
  ⟨(some 13), none, [], false, .mv (.t 22)⟩]
def f59r3 : List I := [⟨(some 23), none, [], false, .mv (.t 13)⟩,
  ⟨(some 24), none, [], false, .un .not (.t 23)⟩]
def f59r4 : List I := [⟨(some 25), none, [], false, .ld true 4 (.t 5)⟩,
  ⟨none, none, [], false, .st 4 (.t 8) (.t 25)⟩,
  ⟨(some 9), none, [], false, .mv (.c (nilS))⟩,
  ⟨(some 10), none, [], false, .mv (.c (.int .i64 1))⟩]
def f59r5 : List I := [⟨(some 26), none, [false], false, .ld true 4 (.t 5)⟩,
  ⟨(some 27), none, [false], false, .ld true 2 (.t 4)⟩,
  ⟨(some 28), none, [], false, .mv (.t 3)⟩,
  ⟨(some 29), none, [false], false, .call 78 [(.t 28)]⟩,
  ⟨(some 30), none, [], false, .build [.int .u32 0, .bool false, .int .i64 0, nilS, .int .i64 0, .int .i64 0, nilS, nilS] [(0, 4, (.t 26)), (4, 2, (.t 27)), (6, 1, (.t 29))]⟩,
  ⟨(some 31), none, [], false, .box (.t 30)⟩,
  ⟨(some 14), none, [], false, .mv (.t 31)⟩]
def f59r6 : List I := [⟨(some 32), none, [], false, .mv (.t 14)⟩,
  ⟨(some 33), none, [], false, .fad 3 (.t 5)⟩,
  ⟨(some 34), none, [], false, .ld false 1 (.t 33)⟩,
  ⟨(some 35), none, [], false, .call 79 [(.t 34)]⟩,
  ⟨(some 36), none, [], false, .nck (.t 32)⟩,
  ⟨(some 37), none, [], false, .fad 0 (.t 36)⟩,
  ⟨(some 38), none, [], false, .fad 3 (.t 37)⟩,
  ⟨none, none, [], false, .st 1 (.t 38) (.t 35)⟩]
def f59r7 : List I := [⟨(some 39), none, [], false, .mv (.t 12)⟩,
  ⟨(some 40), none, [], false, .mv (.t 14)⟩,
  ⟨(some 41), none, [], false, .ccall (.t 39) [(.t 40)]⟩]
def f59r8 : List I := [⟨(some 42), none, [], false, .mv (.t 14)⟩,
  ⟨(some 43), none, [], false, .nck (.t 42)⟩,
  ⟨(some 44), none, [], false, .fad 0 (.t 43)⟩,
  ⟨(some 45), none, [], false, .fad 3 (.t 44)⟩,
  ⟨(some 46), none, [], false, .ld false 1 (.t 45)⟩,
  ⟨(some 47), none, [], false, .len (.t 46)⟩,
  ⟨(some 48), none, [], false, .bin .gtr .other (.t 47) (.c (.int .i64 64))⟩]
def f59r9 : List I := [⟨(some 49), none, [], false, .ld true 4 (.t 5)⟩,
  ⟨none, none, [], false, .st 4 (.t 8) (.t 49)⟩,
  ⟨(some 9), none, [], false, .mv (.c (nilS))⟩,
  ⟨(some 10), none, [], false, .mv (.c (.int .i64 7))⟩]
def f59r10 : List I := [⟨(some 50), none, [], false, .mv (.t 14)⟩,
  ⟨(some 51), none, [], false, .nck (.t 50)⟩,
  ⟨(some 52), none, [], false, .fad 0 (.t 51)⟩,
  ⟨(some 53), none, [], false, .ld true 4 (.t 52)⟩,
  ⟨none, none, [], false, .st 4 (.t 8) (.t 53)⟩,
  ⟨(some 54), none, [], false, .mv (.t 14)⟩,
  ⟨(some 55), none, [], false, .nck (.t 54)⟩,
  ⟨(some 56), none, [], false, .fad 7 (.t 55)⟩,
  ⟨(some 57), none, [], true, .ld false 1 (.t 56)⟩,
  ⟨(some 9), none, [], false, .mv (.t 57)⟩,
  ⟨(some 10), none, [], false, .mv (.c (.int .i64 0))⟩]
def f59 : Fn := ⟨[0, 1, 2, 3, 4, 5, 8, 9, 10, 11, 12, 13, 14, 24, 48], (.seq (.reg false f59r0) (.seq (.reg false f59r1) (.seq (.reg false f59r2) (.seq (.seq (.reg false f59r3) (.cond (.t 24) (.seq (.reg false f59r4) .ret) .skip)) (.seq (.reg true f59r5) (.seq (.reg false f59r6) (.seq (.reg false f59r7) (.seq (.seq (.reg false f59r8) (.cond (.t 48) (.seq (.reg false f59r9) .ret) .skip)) (.seq (.reg true f59r10) .ret))))))))), [.cell 8 true 4, .tmp 9, .tmp 10]⟩
/-! 61: slices.Clone[[]stolon/api.Place,stolon/api.Place] -/
def f61r0 : List I := [⟨(some 2), none, [], false, .mv (.c (nilS))⟩]
def f61r1 : List I := [⟨(some 3), none, [], false, .mv (.t 0)⟩,
  ⟨(some 4), none, [], false, .bin .eql .slice (.t 3) (.c (nilS))⟩]
def f61r2 : List I := [⟨(some 2), none, [], false, .mv (.c (nilS))⟩]
def f61r3 : List I := [⟨(some 5), none, [], false, .bslice 7 0 [] []⟩,
  ⟨(some 6), none, [], false, .mv (.t 0)⟩,
  ⟨(some 7), none, [], false, .app 7 64 (.t 5) (.t 6)⟩,
  ⟨(some 2), none, [], false, .mv (.t 7)⟩]
def f61 : Fn := ⟨[0, 2, 4], (.seq (.reg false f61r0) (.seq (.seq (.reg false f61r1) (.cond (.t 4) (.seq (.reg false f61r2) .ret) .skip)) (.seq (.reg false f61r3) .ret))), [.tmp 2]⟩
/-! 62: slices.Insert[[]stolon/api.Place,stolon/api.Place] -/
def f62r0 : List I := [⟨(some 6), none, [], false, .mv (.c (nilS))⟩]
def f62r1 : List I := [⟨(some 10), none, [], false, .mv (.t 0)⟩,
  ⟨(some 11), none, [], false, .mv (.t 1)⟩,
  ⟨(some 12), none, [], false, .slice 7 (.t 10) (some (.t 11)) none none⟩]
def f62r2 : List I := [⟨(some 13), none, [], false, .mv (.t 2)⟩,
  ⟨(some 14), none, [], false, .len (.t 13)⟩,
  ⟨(some 7), none, [], false, .mv (.t 14)⟩]
def f62r3 : List I := [⟨(some 15), none, [], false, .mv (.t 7)⟩,
  ⟨(some 16), none, [], false, .bin .eql .other (.t 15) (.c (.int .i64 0))⟩]
def f62r4 : List I := [⟨(some 17), none, [], false, .mv (.t 0)⟩,
  ⟨(some 6), none, [], false, .mv (.t 17)⟩]
def f62r5 : List I := [⟨(some 18), none, [], false, .mv (.t 0)⟩,
  ⟨(some 19), none, [], false, .len (.t 18)⟩,
  ⟨(some 8), none, [], false, .mv (.t 19)⟩]
def f62r6 : List I := [⟨(some 20), none, [], false, .mv (.t 1)⟩,
  ⟨(some 21), none, [], false, .mv (.t 8)⟩,
  ⟨(some 22), none, [], false, .bin .eql .other (.t 20) (.t 21)⟩]
def f62r7 : List I := [⟨(some 23), none, [], false, .mv (.t 0)⟩,
  ⟨(some 24), none, [], false, .mv (.t 2)⟩,
  ⟨(some 25), none, [], false, .app 7 64 (.t 23) (.t 24)⟩,
  ⟨(some 6), none, [], false, .mv (.t 25)⟩]
def f62r8 : List I := [⟨(some 26), none, [], false, .mv (.t 8)⟩,
  ⟨(some 27), none, [], false, .mv (.t 7)⟩,
  ⟨(some 28), none, [], false, .bin .add .other (.t 26) (.t 27)⟩,
  ⟨(some 29), none, [], false, .mv (.t 0)⟩,
  ⟨(some 30), none, [], false, .bad⟩,
  ⟨(some 31), none, [], false, .bin .gtr .other (.t 28) (.t 30)⟩]
def f62r9 : List I := [⟨(some 32), none, [], false, .mv (.t 0)⟩,
  ⟨(some 33), none, [], false, .mv (.t 1)⟩,
  ⟨(some 34), none, [], false, .slice 7 (.t 32) none (some (.t 33)) none⟩,
  ⟨(some 35), none, [], false, .mv (.t 8)⟩,
  ⟨(some 36), none, [], false, .mv (.t 7)⟩,
  ⟨(some 37), none, [], false, .bin .add .other (.t 35) (.t 36)⟩,
  ⟨(some 38), none, [], false, .mv (.t 1)⟩,
  ⟨(some 39), none, [], false, .bin .sub .other (.t 37) (.t 38)⟩,
  ⟨(some 40), none, [], false, .bad⟩,
  ⟨(some 9), none, [], false, .mv (.t 40)⟩]
def f62r10 : List I := [⟨(some 41), none, [], false, .mv (.t 9)⟩,
  ⟨(some 42), none, [], false, .mv (.t 1)⟩,
  ⟨(some 43), none, [], false, .slice 7 (.t 41) (some (.t 42)) none none⟩,
  ⟨(some 44), none, [], false, .mv (.t 2)⟩,
  ⟨(some 45), none, [], false, .copy 7 (.t 43) (.t 44)⟩]
def f62r11 : List I := [⟨(some 46), none, [], false, .mv (.t 9)⟩,
  ⟨(some 47), none, [], false, .mv (.t 1)⟩,
  ⟨(some 48), none, [], false, .mv (.t 7)⟩,
  ⟨(some 49), none, [], false, .bin .add .other (.t 47) (.t 48)⟩,
  ⟨(some 50), none, [], false, .slice 7 (.t 46) (some (.t 49)) none none⟩,
  ⟨(some 51), none, [], false, .mv (.t 0)⟩,
  ⟨(some 52), none, [], false, .mv (.t 1)⟩,
  ⟨(some 53), none, [], false, .slice 7 (.t 51) (some (.t 52)) none none⟩,
  ⟨(some 54), none, [], false, .copy 7 (.t 50) (.t 53)⟩]
def f62r12 : List I := [⟨(some 55), none, [], false, .mv (.t 9)⟩,
  ⟨(some 6), none, [], false, .mv (.t 55)⟩]
def f62r13 : List I := [⟨(some 56), none, [], false, .mv (.t 0)⟩,
  ⟨(some 57), none, [], false, .mv (.t 8)⟩,
  ⟨(some 58), none, [], false, .mv (.t 7)⟩,
  ⟨(some 59), none, [], false, .bin .add .other (.t 57) (.t 58)⟩,
  ⟨(some 60), none, [], false, .slice 7 (.t 56) none (some (.t 59)) none⟩,
  ⟨(some 0), none, [], false, .mv (.t 60)⟩]
def f62r14 : List I := [⟨(some 61), none, [], false, .mv (.t 2)⟩,
  ⟨(some 62), none, [], false, .mv (.t 0)⟩,
  ⟨(some 63), none, [], false, .mv (.t 1)⟩,
  ⟨(some 64), none, [], false, .mv (.t 7)⟩,
  ⟨(some 65), none, [], false, .bin .add .other (.t 63) (.t 64)⟩,
  ⟨(some 66), none, [], false, .slice 7 (.t 62) (some (.t 65)) none none⟩,
  ⟨(some 67), none, [], false, .call 80 [(.t 61), (.t 66)]⟩,
  ⟨(some 68), none, [], false, .un .not (.t 67)⟩]
def f62r15 : List I := [⟨(some 69), none, [], false, .mv (.t 0)⟩,
  ⟨(some 70), none, [], false, .mv (.t 1)⟩,
  ⟨(some 71), none, [], false, .mv (.t 7)⟩,
  ⟨(some 72), none, [], false, .bin .add .other (.t 70) (.t 71)⟩,
  ⟨(some 73), none, [], false, .slice 7 (.t 69) (some (.t 72)) none none⟩,
  ⟨(some 74), none, [], false, .mv (.t 0)⟩,
  ⟨(some 75), none, [], false, .mv (.t 1)⟩,
  ⟨(some 76), none, [], false, .slice 7 (.t 74) (some (.t 75)) none none⟩,
  ⟨(some 77), none, [], false, .copy 7 (.t 73) (.t 76)⟩]
def f62r16 : List I := [⟨(some 78), none, [], false, .mv (.t 0)⟩,
  ⟨(some 79), none, [], false, .mv (.t 1)⟩,
  ⟨(some 80), none, [], false, .slice 7 (.t 78) (some (.t 79)) none none⟩,
  ⟨(some 81), none, [], false, .mv (.t 2)⟩,
  ⟨(some 82), none, [], false, .copy 7 (.t 80) (.t 81)⟩]
def f62r17 : List I := [⟨(some 83), none, [], false, .mv (.t 0)⟩,
  ⟨(some 6), none, [], false, .mv (.t 83)⟩]
def f62r18 : List I := [⟨(some 84), none, [], false, .mv (.t 0)⟩,
  ⟨(some 85), none, [], false, .mv (.t 8)⟩,
  ⟨(some 86), none, [], false, .slice 7 (.t 84) (some (.t 85)) none none⟩,
  ⟨(some 87), none, [], false, .mv (.t 2)⟩,
  ⟨(some 88), none, [], false, .copy 7 (.t 86) (.t 87)⟩]
def f62r19 : List I := [⟨(some 89), none, [], false, .mv (.t 0)⟩,
  ⟨(some 90), none, [], false, .mv (.t 1)⟩,
  ⟨(some 91), none, [], false, .slice 7 (.t 89) (some (.t 90)) none none⟩,
  ⟨(some 92), none, [], false, .mv (.t 7)⟩,
  ⟨(some 93), none, [], false, .call 81 [(.t 91), (.t 92)]⟩]
def f62r20 : List I := [⟨(some 94), none, [], false, .mv (.t 0)⟩,
  ⟨(some 6), none, [], false, .mv (.t 94)⟩]
def f62 : Fn := ⟨[0, 1, 2, 6, 7, 8, 9, 16, 22, 31, 68], (.seq (.reg false f62r0) (.seq (.reg false f62r1) (.seq (.reg false f62r2) (.seq (.seq (.reg false f62r3) (.cond (.t 16) (.seq (.reg false f62r4) .ret) .skip)) (.seq (.reg false f62r5) (.seq (.seq (.reg false f62r6) (.cond (.t 22) (.seq (.reg false f62r7) .ret) .skip)) (.seq (.seq (.reg false f62r8) (.cond (.t 31) (.seq (.reg false f62r9) (.seq (.reg false f62r10) (.seq (.reg true f62r11) (.seq (.reg false f62r12) .ret)))) .skip)) (.seq (.reg false f62r13) (.seq (.seq (.reg false f62r14) (.cond (.t 68) (.seq (.reg true f62r15) (.seq (.reg false f62r16) (.seq (.reg false f62r17) .ret))) .skip)) (.seq (.reg false f62r18) (.seq (.reg false f62r19) (.seq (.reg false f62r20) .ret)))))))))))), [.tmp 6]⟩
/-! 63: slices.Delete[[]stolon/api.Place,stolon/api.Place] -/
def f63r0 : List I := [⟨(some 6), none, [], false, .mv (.c (nilS))⟩]
def f63r1 : List I := [⟨(some 8), none, [], false, .mv (.t 0)⟩,
  ⟨(some 9), none, [], false, .mv (.t 1)⟩,
  ⟨(some 10), none, [], false, .mv (.t 2)⟩,
  ⟨(some 11), none, [], false, .mv (.t 0)⟩,
  ⟨(some 12), none, [], false, .len (.t 11)⟩,
  ⟨(some 13), none, [], false, .slice 7 (.t 8) (some (.t 9)) (some (.t 10)) (some (.t 12))⟩]
def f63r2 : List I := [⟨(some 14), none, [], false, .mv (.t 1)⟩,
  ⟨(some 15), none, [], false, .mv (.t 2)⟩,
  ⟨(some 16), none, [], false, .bin .eql .other (.t 14) (.t 15)⟩]
def f63r3 : List I := [⟨(some 17), none, [], false, .mv (.t 0)⟩,
  ⟨(some 6), none, [], false, .mv (.t 17)⟩]
def f63r4 : List I := [⟨(some 18), none, [], false, .mv (.t 0)⟩,
  ⟨(some 19), none, [], false, .len (.t 18)⟩,
  ⟨(some 7), none, [], false, .mv (.t 19)⟩]
def f63r5 : List I := [⟨(some 20), none, [], false, .mv (.t 0)⟩,
  ⟨(some 21), none, [], false, .mv (.t 1)⟩,
  ⟨(some 22), none, [], false, .slice 7 (.t 20) none (some (.t 21)) none⟩,
  ⟨(some 23), none, [], false, .mv (.t 0)⟩,
  ⟨(some 24), none, [], false, .mv (.t 2)⟩,
  ⟨(some 25), none, [], false, .slice 7 (.t 23) (some (.t 24)) none none⟩,
  ⟨(some 26), none, [], false, .app 7 64 (.t 22) (.t 25)⟩,
  ⟨(some 0), none, [], false, .mv (.t 26)⟩]
def f63r6 : List I := [⟨(some 27), none, [], false, .mv (.t 0)⟩,
  ⟨(some 28), none, [], false, .mv (.t 0)⟩,
  ⟨(some 29), none, [], false, .len (.t 28)⟩,
  ⟨(some 30), none, [], false, .mv (.t 7)⟩,
  ⟨(some 31), none, [], false, .slice 7 (.t 27) (some (.t 29)) (some (.t 30)) none⟩,
  ⟨none, none, [], false, .clear 7 [.int .i64 0, .int .i64 0, .int .i64 0, .int .u32 0, .bool false, .int .i64 0, nilS] (.t 31)⟩]
def f63r7 : List I := [⟨(some 32), none, [], false, .mv (.t 0)⟩,
  ⟨(some 6), none, [], false, .mv (.t 32)⟩]
def f63 : Fn := ⟨[0, 1, 2, 6, 7, 16], (.seq (.reg false f63r0) (.seq (.reg false f63r1) (.seq (.seq (.reg false f63r2) (.cond (.t 16) (.seq (.reg false f63r3) .ret) .skip)) (.seq (.reg false f63r4) (.seq (.reg true f63r5) (.seq (.reg false f63r6) (.seq (.reg false f63r7) .ret))))))), [.tmp 6]⟩
/-! 64: stolon/stolonref06.Make -/
def f64r0 : List I := [⟨(some 2), none, [], false, .mv (.c (nilS))⟩]
def f64r1 : List I := [⟨(some 3), none, [], false, .mv (.c (nilS))⟩]
def f64r2 : List I := [⟨(some 4), none, [], false, .mv (.c (.int .i64 0))⟩]
def f64r3 : List I := [⟨(some 8), none, [], false, .mv (.t 4)⟩,
  ⟨(some 9), none, [], false, .mv (.t 0)⟩,
  ⟨(some 10), none, [], false, .len (.t 9)⟩,
  ⟨(some 11), none, [], false, .bin .lss .other (.t 8) (.t 10)⟩]
def f64r4 : List I := [⟨(some 14), none, [], false, .mv (.t 3)⟩,
  ⟨(some 15), none, [], false, .mv (.t 0)⟩,
  ⟨(some 16), none, [], false, .mv (.t 4)⟩,
  ⟨(some 17), none, [], false, .iad 1 none (.t 15) (.t 16)⟩,
  ⟨(some 18), none, [], false, .ld false 1 (.t 17)⟩,
  ⟨(some 19), none, [], false, .call 82 [(.t 14), (.t 18)]⟩,
  ⟨(some 5), none, [], false, .mv (.t 19)⟩]
def f64r5 : List I := [⟨(some 20), none, [], false, .mv (.t 5)⟩]
def f64r6 : List I := [⟨(some 6), none, [], false, .mv (.c (nilS))⟩]
def f64r7 : List I := [⟨(some 7), none, [], false, .mv (.c (.int .i64 0))⟩]
def f64r8 : List I := [⟨(some 21), none, [], false, .mv (.t 7)⟩,
  ⟨(some 22), none, [], false, .mv (.t 3)⟩,
  ⟨(some 23), none, [], false, .len (.t 22)⟩,
  ⟨(some 24), none, [], false, .bin .lss .other (.t 21) (.t 23)⟩,
  ⟨(some 25), none, [], false, .mv (.t 24)⟩,
  ⟨(some 26), (some (25, true)), [], false, .mv (.t 3)⟩,
  ⟨(some 27), (some (25, true)), [], false, .mv (.t 7)⟩,
  ⟨(some 28), (some (25, true)), [], false, .iad 1 none (.t 26) (.t 27)⟩,
  ⟨(some 29), (some (25, true)), [], false, .ld false 1 (.t 28)⟩,
  ⟨(some 30), (some (25, true)), [], false, .mv (.t 0)⟩,
  ⟨(some 31), (some (25, true)), [], false, .mv (.t 4)⟩,
  ⟨(some 32), (some (25, true)), [], false, .iad 1 none (.t 30) (.t 31)⟩,
  ⟨(some 33), (some (25, true)), [], false, .ld false 1 (.t 32)⟩,
  ⟨(some 34), (some (25, true)), [], false, .bin .lss .other (.t 29) (.t 33)⟩,
  ⟨(some 35), none, [], false, .pick (.t 25) (.t 34) (.c (.bool false))⟩]
def f64r9 : List I := [⟨(some 36), none, [], false, .mv (.t 6)⟩,
  ⟨(some 37), none, [], false, .mv (.t 3)⟩,
  ⟨(some 38), none, [], false, .mv (.t 7)⟩,
  ⟨(some 39), none, [], false, .iad 1 none (.t 37) (.t 38)⟩,
  ⟨(some 40), none, [], false, .ld false 1 (.t 39)⟩,
  ⟨(some 41), none, [], false, .bslice 1 1 [.int .u32 0] [(0, 1, (.t 40))]⟩,
  ⟨(some 42), none, [], false, .app 1 4 (.t 36) (.t 41)⟩,
  ⟨(some 6), none, [], false, .mv (.t 42)⟩]
def f64r10 : List I := [⟨(some 43), none, [], false, .mv (.t 7)⟩,
  ⟨(some 44), none, [], false, .bin .add .other (.t 43) (.c (.int .i64 1))⟩,
  ⟨(some 7), none, [], false, .mv (.t 44)⟩]
def f64l0 : C := (.seq (.seq (.reg true f64r8) (.cond (.t 35) .skip (.exit 2))) (.block 3 (.seq (.reg false f64r9) (.reg false f64r10))))
def f64r11 : List I := [⟨(some 45), none, [], false, .mv (.t 6)⟩,
  ⟨(some 46), none, [], false, .mv (.t 0)⟩,
  ⟨(some 47), none, [], false, .mv (.t 4)⟩,
  ⟨(some 48), none, [], false, .iad 1 none (.t 46) (.t 47)⟩,
  ⟨(some 49), none, [], false, .ld false 1 (.t 48)⟩,
  ⟨(some 50), none, [], false, .bslice 1 1 [.int .u32 0] [(0, 1, (.t 49))]⟩,
  ⟨(some 51), none, [], false, .app 1 4 (.t 45) (.t 50)⟩,
  ⟨(some 6), none, [], false, .mv (.t 51)⟩]
def f64r12 : List I := [⟨(some 52), none, [], false, .mv (.t 6)⟩,
  ⟨(some 53), none, [], false, .mv (.t 3)⟩,
  ⟨(some 54), none, [], false, .mv (.t 7)⟩,
  ⟨(some 55), none, [], false, .slice 1 (.t 53) (some (.t 54)) none none⟩,
  ⟨(some 56), none, [], false, .app 1 4 (.t 52) (.t 55)⟩,
  ⟨(some 6), none, [], false, .mv (.t 56)⟩]
def f64r13 : List I := [⟨(some 57), none, [], false, .mv (.t 6)⟩,
  ⟨(some 3), none, [], false, .mv (.t 57)⟩]
def f64r14 : List I := [⟨(some 12), none, [], false, .mv (.t 4)⟩,
  ⟨(some 13), none, [], false, .bin .add .other (.t 12) (.c (.int .i64 1))⟩,
  ⟨(some 4), none, [], false, .mv (.t 13)⟩]
def f64l1 : C := (.seq (.seq (.reg false f64r3) (.cond (.t 11) .skip (.exit 0))) (.seq (.block 1 (.seq (.reg false f64r4) (.seq (.seq (.reg false f64r5) (.cond (.t 20) (.exit 1) .skip)) (.seq (.reg false f64r6) (.seq (.reg false f64r7) (.seq (.block 2 (.loop f64l0)) (.seq (.reg false f64r11) (.seq (.reg false f64r12) (.reg false f64r13))))))))) (.reg false f64r14)))
def f64r15 : List I := [⟨(some 58), none, [], false, .mv (.t 3)⟩,
  ⟨(some 2), none, [], false, .mv (.t 58)⟩]
def f64 : Fn := ⟨[0, 2, 3, 4, 5, 6, 7, 11, 20, 35], (.seq (.reg false f64r0) (.seq (.reg false f64r1) (.seq (.seq (.reg false f64r2) (.block 0 (.loop f64l1))) (.seq (.reg false f64r15) .ret)))), [.tmp 2]⟩
/-! 65: stolon/stolonref08.plain -/
def f65r0 : List I := [⟨(some 4), none, [], false, .box (.t 0)⟩,
  ⟨(some 5), none, [], false, .box (.t 1)⟩,
  ⟨(some 8), none, [], false, .alloc [nilS, .bool false, .int .i64 0, nilS]⟩]
def f65r1 : List I := [⟨(some 14), none, [], false, .ld true 4 (.t 5)⟩,
  ⟨(some 15), none, [], false, .call 83 [(.t 14)]⟩,
  ⟨(some 13), none, [], false, .mv (.t 15)⟩,
  ⟨(some 16), none, [], false, .ext 0 (.t 13)⟩,
  ⟨(some 17), none, [], false, .ext 1 (.t 13)⟩,
  ⟨(some 9), none, [], false, .mv (.t 16)⟩,
  ⟨(some 10), none, [], false, .mv (.t 17)⟩]
def f65r2 : List I := [⟨(some 18), none, [], false, .mv (.t 9)⟩,
  ⟨(some 19), none, [], false, .mv (.t 3)⟩,
  ⟨(some 20), none, [], false, .call 84 [(.t 18), (.t 19)]⟩,
  ⟨(some 11), none, [], false, .mv (.t 20)⟩]
def f65r3 : List I := [⟨(some 21), none, [], false, .mv (.t 2)⟩]
def f65r4 : List I := [⟨(some 23), none, [], false, .bin .eql .other (.t 21) (.c (.int .u8 1))⟩,
  ⟨(some 22), none, [], false, .mv (.t 23)⟩]
def f65r5 : List I := [⟨(some 24), none, [], false, .bin .eql .other (.t 21) (.c (.int .u8 5))⟩,
  ⟨(some 22), none, [], false, .mv (.t 24)⟩]
def f65r6 : List I := [⟨(some 25), none, [], false, .ld true 4 (.t 5)⟩,
  ⟨(some 26), none, [], false, .mv (.t 11)⟩,
  ⟨(some 27), none, [], false, .mv (.t 3)⟩,
  ⟨(some 28), none, [], false, .fad 0 (.t 4)⟩,
  ⟨(some 29), none, [], false, .ld false 1 (.t 28)⟩,
  ⟨(some 30), none, [], false, .call 85 [(.t 25), (.t 26), (.c (.int .i64 0)), (.t 27), (.t 29)]⟩,
  ⟨(some 31), none, [], false, .build [nilS, .bool false, .int .i64 0, nilS] [(0, 1, (.t 30))]⟩,
  ⟨none, none, [], false, .st 4 (.t 8) (.t 31)⟩]
def f65r7 : List I := [⟨(some 33), none, [], false, .bin .eql .other (.t 21) (.c (.int .u8 2))⟩,
  ⟨(some 32), none, [], false, .mv (.t 33)⟩]
def f65r8 : List I := [⟨(some 34), none, [], false, .bin .eql .other (.t 21) (.c (.int .u8 4))⟩,
  ⟨(some 32), none, [], false, .mv (.t 34)⟩]
def f65r9 : List I := [⟨(some 35), none, [false], false, .ld true 4 (.t 5)⟩,
  ⟨(some 36), none, [], false, .mv (.t 3)⟩,
  ⟨(some 37), none, [false], false, .call 85 [(.t 35), (.t 36), (.c (.int .i64 0)), (.c (nilS)), (.c (.int .i64 0))]⟩,
  ⟨(some 38), none, [], false, .fad 0 (.t 4)⟩,
  ⟨(some 39), none, [false], false, .ld false 1 (.t 38)⟩,
  ⟨(some 40), none, [], false, .build [nilS, .bool false, .int .i64 0, nilS] [(0, 1, (.t 37)), (1, 1, (.c (.bool true))), (2, 1, (.t 39))]⟩,
  ⟨(some 12), none, [], false, .alloc [nilS, .bool false, .int .i64 0, nilS]⟩,
  ⟨none, none, [], false, .st 4 (.t 12) (.t 40)⟩]
def f65r10 : List I := [⟨(some 41), none, [], false, .mv (.t 2)⟩,
  ⟨(some 42), none, [], false, .bin .eql .other (.t 41) (.c (.int .u8 2))⟩]
def f65r11 : List I := [⟨(some 43), none, [], false, .ld true 4 (.t 12)⟩,
  ⟨none, none, [], false, .st 4 (.t 8) (.t 43)⟩]
def f65r12 : List I := [⟨(some 44), none, [], false, .ld true 4 (.t 12)⟩,
  ⟨(some 45), none, [], false, .fad 0 (.t 5)⟩,
  ⟨(some 46), none, [], false, .ld false 1 (.t 45)⟩,
  ⟨(some 47), none, [], false, .mv (.t 9)⟩,
  ⟨(some 48), none, [], false, .mv (.t 3)⟩,
  ⟨(some 49), none, [], false, .call 87 [(.t 47), (.t 48)]⟩,
  ⟨(some 50), none, [], false, .fad 1 (.t 4)⟩,
  ⟨(some 51), none, [], false, .ld false 1 (.t 50)⟩,
  ⟨(some 52), none, [], false, .call 86 [(.t 44), (.t 46), (.t 49), (.t 51)]⟩,
  ⟨none, none, [], false, .st 4 (.t 8) (.t 52)⟩]
def f65r13 : List I := [⟨(some 54), none, [], false, .bin .eql .other (.t 21) (.c (.int .u8 6))⟩,
  ⟨(some 53), none, [], false, .mv (.t 54)⟩]
def f65r14 : List I := [⟨(some 55), none, [], false, .fad 3 (.t 5)⟩,
  ⟨(some 56), none, [], false, .ld false 1 (.t 55)⟩,
  ⟨(some 57), none, [], false, .build [nilS, .bool false, .int .i64 0, nilS] [(0, 1, (.t 56))]⟩,
  ⟨(some 58), none, [], false, .fad 0 (.t 5)⟩,
  ⟨(some 59), none, [], false, .ld false 1 (.t 58)⟩,
  ⟨(some 60), none, [], false, .mv (.t 9)⟩,
  ⟨(some 61), none, [], false, .mv (.t 3)⟩,
  ⟨(some 62), none, [], false, .call 87 [(.t 60), (.t 61)]⟩,
  ⟨(some 63), none, [], false, .fad 1 (.t 4)⟩,
  ⟨(some 64), none, [], false, .ld false 1 (.t 63)⟩,
  ⟨(some 65), none, [], false, .call 86 [(.t 57), (.t 59), (.t 62), (.t 64)]⟩,
  ⟨none, none, [], false, .st 4 (.t 8) (.t 65)⟩]
def f65r15 : List I := [⟨(some 66), none, [], false, .ld true 4 (.t 5)⟩,
  ⟨(some 67), none, [], false, .mv (.t 11)⟩,
  ⟨(some 68), none, [], false, .mv (.t 3)⟩,
  ⟨(some 69), none, [], false, .fad 0 (.t 4)⟩,
  ⟨(some 70), none, [], false, .ld false 1 (.t 69)⟩,
  ⟨(some 71), none, [], false, .call 85 [(.t 66), (.t 67), (.c (.int .i64 0)), (.t 68), (.t 70)]⟩,
  ⟨(some 72), none, [], false, .build [nilS, .bool false, .int .i64 0, nilS] [(0, 1, (.t 71))]⟩,
  ⟨(some 73), none, [], false, .fad 0 (.t 5)⟩,
  ⟨(some 74), none, [], false, .ld false 1 (.t 73)⟩,
  ⟨(some 75), none, [], false, .mv (.t 9)⟩,
  ⟨(some 76), none, [], false, .mv (.t 3)⟩,
  ⟨(some 77), none, [], false, .call 88 [(.t 75), (.t 76)]⟩,
  ⟨(some 78), none, [], false, .fad 1 (.t 4)⟩,
  ⟨(some 79), none, [], false, .ld false 1 (.t 78)⟩,
  ⟨(some 80), none, [], false, .call 86 [(.t 72), (.t 74), (.t 77), (.t 79)]⟩,
  ⟨none, none, [], false, .st 4 (.t 8) (.t 80)⟩]
def f65 : Fn := ⟨[0, 1, 2, 3, 4, 5, 8, 9, 11, 12, 21, 22, 32, 42, 53], (.seq (.reg false f65r0) (.seq (.reg false f65r1) (.seq (.reg false f65r2) (.seq (.seq (.reg false f65r3) (.block 0 (.seq (.seq (.reg false f65r4) (.cond (.t 22) .skip (.reg false f65r5))) (.cond (.t 22) (.seq (.reg false f65r6) .ret) (.seq (.seq (.reg false f65r7) (.cond (.t 32) .skip (.reg false f65r8))) (.cond (.t 32) (.seq (.reg true f65r9) (.seq (.seq (.reg false f65r10) (.cond (.t 42) (.seq (.reg false f65r11) .ret) .skip)) (.seq (.reg true f65r12) .ret))) (.seq (.reg false f65r13) (.cond (.t 53) (.seq (.reg true f65r14) .ret) .skip)))))))) (.seq (.reg true f65r15) .ret))))), [.cell 8 true 4]⟩
/-! 66: stolon/stolonref08.excepted -/
def f66r0 : List I := [⟨(some 4), none, [], false, .box (.t 0)⟩,
  ⟨(some 5), none, [], false, .box (.t 1)⟩,
  ⟨(some 8), none, [], false, .alloc [nilS, .bool false, .int .i64 0, nilS]⟩]
def f66r1 : List I := [⟨(some 14), none, [], false, .ld true 4 (.t 5)⟩,
  ⟨(some 15), none, [], false, .call 83 [(.t 14)]⟩,
  ⟨(some 13), none, [], false, .mv (.t 15)⟩,
  ⟨(some 16), none, [], false, .ext 0 (.t 13)⟩,
  ⟨(some 17), none, [], false, .ext 1 (.t 13)⟩,
  ⟨(some 9), none, [], false, .mv (.t 16)⟩,
  ⟨(some 10), none, [], false, .mv (.t 17)⟩]
def f66r2 : List I := [⟨(some 18), none, [], false, .mv (.t 9)⟩,
  ⟨(some 19), none, [], false, .mv (.t 10)⟩,
  ⟨(some 20), none, [], false, .call 84 [(.t 18), (.t 19)]⟩,
  ⟨(some 21), none, [], false, .mv (.t 3)⟩,
  ⟨(some 22), none, [], false, .call 84 [(.t 20), (.t 21)]⟩,
  ⟨(some 11), none, [], false, .mv (.t 22)⟩]
def f66r3 : List I := [⟨(some 23), none, [], false, .mv (.t 2)⟩]
def f66r4 : List I := [⟨(some 25), none, [], false, .bin .eql .other (.t 23) (.c (.int .u8 1))⟩,
  ⟨(some 24), none, [], false, .mv (.t 25)⟩]
def f66r5 : List I := [⟨(some 26), none, [], false, .bin .eql .other (.t 23) (.c (.int .u8 5))⟩,
  ⟨(some 24), none, [], false, .mv (.t 26)⟩]
def f66r6 : List I := [⟨(some 27), none, [], false, .ld true 4 (.t 5)⟩,
  ⟨(some 28), none, [], false, .mv (.t 11)⟩,
  ⟨(some 29), none, [], false, .mv (.t 3)⟩,
  ⟨(some 30), none, [], false, .fad 0 (.t 4)⟩,
  ⟨(some 31), none, [], false, .ld false 1 (.t 30)⟩,
  ⟨(some 32), none, [], false, .call 85 [(.t 27), (.t 28), (.c (.int .i64 0)), (.t 29), (.t 31)]⟩,
  ⟨(some 33), none, [], false, .fad 2 (.t 5)⟩,
  ⟨(some 34), none, [], false, .ld false 1 (.t 33)⟩,
  ⟨(some 35), none, [], false, .build [nilS, .bool false, .int .i64 0, nilS] [(0, 1, (.t 32)), (1, 1, (.c (.bool true))), (2, 1, (.t 34))]⟩,
  ⟨none, none, [], false, .st 4 (.t 8) (.t 35)⟩]
def f66r7 : List I := [⟨(some 37), none, [], false, .bin .eql .other (.t 23) (.c (.int .u8 2))⟩,
  ⟨(some 36), none, [], false, .mv (.t 37)⟩]
def f66r8 : List I := [⟨(some 38), none, [], false, .ld true 4 (.t 5)⟩,
  ⟨(some 39), none, [], false, .mv (.t 3)⟩,
  ⟨(some 40), none, [], false, .fad 0 (.t 4)⟩,
  ⟨(some 41), none, [], false, .ld false 1 (.t 40)⟩,
  ⟨(some 42), none, [], false, .call 85 [(.t 38), (.t 39), (.t 41), (.c (nilS)), (.c (.int .i64 0))]⟩,
  ⟨(some 43), none, [], false, .fad 0 (.t 4)⟩,
  ⟨(some 44), none, [], false, .ld false 1 (.t 43)⟩,
  ⟨(some 45), none, [], false, .build [nilS, .bool false, .int .i64 0, nilS] [(0, 1, (.t 42)), (1, 1, (.c (.bool true))), (2, 1, (.t 44))]⟩,
  ⟨none, none, [], false, .st 4 (.t 8) (.t 45)⟩]
def f66r9 : List I := [⟨(some 47), none, [], false, .bin .eql .other (.t 23) (.c (.int .u8 4))⟩,
  ⟨(some 46), none, [], false, .mv (.t 47)⟩]
def f66r10 : List I := [⟨(some 48), none, [], false, .ld true 4 (.t 5)⟩,
  ⟨(some 49), none, [], false, .mv (.t 3)⟩,
  ⟨(some 50), none, [], false, .fad 2 (.t 5)⟩,
  ⟨(some 51), none, [], false, .ld false 1 (.t 50)⟩,
  ⟨(some 52), none, [], false, .call 85 [(.t 48), (.t 49), (.t 51), (.c (nilS)), (.c (.int .i64 0))]⟩,
  ⟨(some 53), none, [], false, .fad 0 (.t 4)⟩,
  ⟨(some 54), none, [], false, .ld false 1 (.t 53)⟩,
  ⟨(some 55), none, [], false, .build [nilS, .bool false, .int .i64 0, nilS] [(0, 1, (.t 52)), (1, 1, (.c (.bool true))), (2, 1, (.t 54))]⟩,
  ⟨(some 56), none, [], false, .fad 0 (.t 5)⟩,
  ⟨(some 57), none, [], false, .ld false 1 (.t 56)⟩,
  ⟨(some 58), none, [], false, .mv (.t 3)⟩,
  ⟨(some 59), none, [], false, .mv (.t 10)⟩,
  ⟨(some 60), none, [], false, .call 88 [(.t 58), (.t 59)]⟩,
  ⟨(some 61), none, [], false, .fad 1 (.t 4)⟩,
  ⟨(some 62), none, [], false, .ld false 1 (.t 61)⟩,
  ⟨(some 63), none, [], false, .call 86 [(.t 55), (.t 57), (.t 60), (.t 62)]⟩,
  ⟨none, none, [], false, .st 4 (.t 8) (.t 63)⟩]
def f66r11 : List I := [⟨(some 65), none, [], false, .bin .eql .other (.t 23) (.c (.int .u8 6))⟩,
  ⟨(some 64), none, [], false, .mv (.t 65)⟩]
def f66r12 : List I := [⟨(some 66), none, [], false, .ld true 4 (.t 5)⟩,
  ⟨(some 67), none, [], false, .mv (.t 11)⟩,
  ⟨(some 68), none, [], false, .fad 2 (.t 5)⟩,
  ⟨(some 69), none, [], false, .ld false 1 (.t 68)⟩,
  ⟨(some 70), none, [], false, .call 85 [(.t 66), (.t 67), (.t 69), (.c (nilS)), (.c (.int .i64 0))]⟩,
  ⟨(some 71), none, [], false, .fad 2 (.t 5)⟩,
  ⟨(some 72), none, [], false, .ld false 1 (.t 71)⟩,
  ⟨(some 73), none, [], false, .build [nilS, .bool false, .int .i64 0, nilS] [(0, 1, (.t 70)), (1, 1, (.c (.bool true))), (2, 1, (.t 72))]⟩,
  ⟨(some 74), none, [], false, .fad 0 (.t 5)⟩,
  ⟨(some 75), none, [], false, .ld false 1 (.t 74)⟩,
  ⟨(some 76), none, [], false, .mv (.t 3)⟩,
  ⟨(some 77), none, [], false, .mv (.t 10)⟩,
  ⟨(some 78), none, [], false, .call 88 [(.t 76), (.t 77)]⟩,
  ⟨(some 79), none, [], false, .fad 1 (.t 4)⟩,
  ⟨(some 80), none, [], false, .ld false 1 (.t 79)⟩,
  ⟨(some 81), none, [], false, .call 86 [(.t 73), (.t 75), (.t 78), (.t 80)]⟩,
  ⟨none, none, [], false, .st 4 (.t 8) (.t 81)⟩]
def f66r13 : List I := [⟨(some 82), none, [false], false, .ld true 4 (.t 5)⟩,
  ⟨(some 83), none, [], false, .mv (.t 11)⟩,
  ⟨(some 84), none, [], false, .mv (.t 3)⟩,
  ⟨(some 85), none, [], false, .fad 0 (.t 4)⟩,
  ⟨(some 86), none, [false], false, .ld false 1 (.t 85)⟩,
  ⟨(some 87), none, [false], false, .call 85 [(.t 82), (.t 83), (.c (.int .i64 0)), (.t 84), (.t 86)]⟩,
  ⟨(some 88), none, [], false, .fad 2 (.t 5)⟩,
  ⟨(some 89), none, [false], false, .ld false 1 (.t 88)⟩,
  ⟨(some 90), none, [], false, .fad 1 (.t 4)⟩,
  ⟨(some 91), none, [false], false, .ld false 1 (.t 90)⟩,
  ⟨(some 92), none, [], false, .mn (.t 89) [(.t 91)]⟩,
  ⟨(some 93), none, [], false, .build [nilS, .bool false, .int .i64 0, nilS] [(0, 1, (.t 87)), (1, 1, (.c (.bool true))), (2, 1, (.t 92))]⟩,
  ⟨(some 94), none, [], false, .fad 0 (.t 5)⟩,
  ⟨(some 95), none, [false], false, .ld false 1 (.t 94)⟩,
  ⟨(some 96), none, [], false, .mv (.t 9)⟩,
  ⟨(some 97), none, [], false, .mv (.t 3)⟩,
  ⟨(some 98), none, [false], false, .call 88 [(.t 96), (.t 97)]⟩,
  ⟨(some 99), none, [], false, .fad 1 (.t 4)⟩,
  ⟨(some 100), none, [false], false, .ld false 1 (.t 99)⟩,
  ⟨(some 101), none, [false], false, .call 86 [(.t 93), (.t 95), (.t 98), (.t 100)]⟩,
  ⟨(some 12), none, [], false, .alloc [nilS, .bool false, .int .i64 0, nilS]⟩,
  ⟨none, none, [], false, .st 4 (.t 12) (.t 101)⟩]
def f66 : Fn := ⟨[0, 1, 2, 3, 4, 5, 8, 9, 10, 11, 23, 24, 36, 46, 64], (.seq (.reg false f66r0) (.seq (.reg false f66r1) (.seq (.reg false f66r2) (.seq (.seq (.reg false f66r3) (.block 0 (.seq (.seq (.reg false f66r4) (.cond (.t 24) .skip (.reg false f66r5))) (.cond (.t 24) (.seq (.reg true f66r6) .ret) (.seq (.reg false f66r7) (.cond (.t 36) (.seq (.reg true f66r8) .ret) (.seq (.reg false f66r9) (.cond (.t 46) (.seq (.reg true f66r10) .ret) (.seq (.reg false f66r11) (.cond (.t 64) (.seq (.reg true f66r12) .ret) .skip)))))))))) (.seq (.reg true f66r13) (.seq .bad .ret)))))), [.cell 8 true 4]⟩
/-! 67: slices.BinarySearchFunc[[]stolon/api.Held,stolon/api.Held,stolon/api.Addr] -/
def f67r0 : List I := [⟨(some 6), none, [], false, .mv (.c (.int .i64 0))⟩,
  ⟨(some 7), none, [], false, .mv (.c (.bool false))⟩]
def f67r1 : List I := [⟨(some 12), none, [], false, .mv (.t 0)⟩,
  ⟨(some 13), none, [], false, .len (.t 12)⟩,
  ⟨(some 8), none, [], false, .mv (.t 13)⟩]
def f67r2 : List I := [⟨(some 14), none, [], false, .mv (.t 8)⟩,
  ⟨(some 9), none, [], false, .mv (.c (.int .i64 0))⟩,
  ⟨(some 10), none, [], false, .mv (.t 14)⟩]
def f67r3 : List I := [⟨(some 15), none, [], false, .mv (.t 9)⟩,
  ⟨(some 16), none, [], false, .mv (.t 10)⟩,
  ⟨(some 17), none, [], false, .bin .lss .other (.t 15) (.t 16)⟩]
def f67r4 : List I := [⟨(some 18), none, [], false, .mv (.t 9)⟩,
  ⟨(some 19), none, [], false, .mv (.t 10)⟩,
  ⟨(some 20), none, [], false, .bin .add .other (.t 18) (.t 19)⟩,
  ⟨(some 21), none, [], false, .conv .u64 (.t 20)⟩,
  ⟨(some 22), none, [], false, .bin .shr .other (.t 21) (.c (.int .u64 1))⟩,
  ⟨(some 23), none, [], false, .conv .i64 (.t 22)⟩,
  ⟨(some 11), none, [], false, .mv (.t 23)⟩]
def f67r5 : List I := [⟨(some 24), none, [], false, .mv (.t 2)⟩,
  ⟨(some 25), none, [], false, .mv (.t 0)⟩,
  ⟨(some 26), none, [], false, .mv (.t 11)⟩,
  ⟨(some 27), none, [], false, .iad 2 none (.t 25) (.t 26)⟩,
  ⟨(some 28), none, [], false, .ld true 2 (.t 27)⟩,
  ⟨(some 29), none, [], false, .mv (.t 1)⟩,
  ⟨(some 30), none, [], false, .ccall (.t 24) [(.t 28), (.t 29)]⟩,
  ⟨(some 31), none, [], false, .bin .lss .other (.t 30) (.c (.int .i64 0))⟩]
def f67r6 : List I := [⟨(some 32), none, [], false, .mv (.t 11)⟩,
  ⟨(some 33), none, [], false, .bin .add .other (.t 32) (.c (.int .i64 1))⟩,
  ⟨(some 9), none, [], false, .mv (.t 33)⟩]
def f67r7 : List I := [⟨(some 34), none, [], false, .mv (.t 11)⟩,
  ⟨(some 10), none, [], false, .mv (.t 34)⟩]
def f67l0 : C := (.seq (.seq (.reg false f67r3) (.cond (.t 17) .skip (.exit 0))) (.block 1 (.seq (.reg false f67r4) (.seq (.reg false f67r5) (.cond (.t 31) (.reg false f67r6) (.reg false f67r7))))))
def f67r8 : List I := [⟨(some 35), none, [], false, .mv (.t 9)⟩,
  ⟨(some 36), none, [], false, .mv (.t 9)⟩,
  ⟨(some 37), none, [], false, .mv (.t 8)⟩,
  ⟨(some 38), none, [], false, .bin .lss .other (.t 36) (.t 37)⟩,
  ⟨(some 39), none, [], false, .mv (.t 38)⟩,
  ⟨(some 40), (some (39, true)), [], false, .mv (.t 2)⟩,
  ⟨(some 41), (some (39, true)), [], false, .mv (.t 0)⟩,
  ⟨(some 42), (some (39, true)), [], false, .mv (.t 9)⟩,
  ⟨(some 43), (some (39, true)), [], false, .iad 2 none (.t 41) (.t 42)⟩,
  ⟨(some 44), (some (39, true)), [], false, .ld true 2 (.t 43)⟩,
  ⟨(some 45), (some (39, true)), [], false, .mv (.t 1)⟩,
  ⟨(some 46), (some (39, true)), [], false, .ccall (.t 40) [(.t 44), (.t 45)]⟩,
  ⟨(some 47), (some (39, true)), [], false, .bin .eql .other (.t 46) (.c (.int .i64 0))⟩,
  ⟨(some 48), none, [], false, .pick (.t 39) (.t 47) (.c (.bool false))⟩,
  ⟨(some 6), none, [], false, .mv (.t 35)⟩,
  ⟨(some 7), none, [], false, .mv (.t 48)⟩]
def f67 : Fn := ⟨[0, 1, 2, 6, 7, 8, 9, 10, 11, 17, 31], (.seq (.reg false f67r0) (.seq (.reg false f67r1) (.seq (.reg false f67r2) (.seq (.block 0 (.loop f67l0)) (.seq (.reg false f67r8) .ret))))), [.tmp 6, .tmp 7]⟩
/-! 68: stolon/memb.place$1 -/
def f68r0 : List I := [⟨(some 2), none, [], false, .box (.t 0)⟩,
  ⟨(some 4), none, [], false, .mv (.c (.int .i64 0))⟩]
def f68r1 : List I := [⟨(some 5), none, [], false, .fad 0 (.t 2)⟩,
  ⟨(some 6), none, [], false, .ld false 1 (.t 5)⟩,
  ⟨(some 7), none, [], false, .mv (.t 1)⟩,
  ⟨(some 8), none, [], false, .call 58 [(.t 6), (.t 7)]⟩,
  ⟨(some 4), none, [], false, .mv (.t 8)⟩]
def f68 : Fn := ⟨[0, 1, 2, 4], (.seq (.reg false f68r0) (.seq (.reg false f68r1) .ret)), [.tmp 4]⟩
/-! 69: stolon/memb.Right$1 -/
def f69r0 : List I := [⟨(some 4), none, [], false, .mv (.c (.bool false))⟩]
def f69r1 : List I := [⟨(some 5), none, [], false, .mv (.t 0)⟩,
  ⟨(some 6), none, [], false, .mv (.t 1)⟩,
  ⟨(some 7), none, [], false, .bin .lss .other (.t 5) (.t 6)⟩,
  ⟨(some 8), none, [], false, .mv (.t 7)⟩,
  ⟨(some 9), (some (8, false)), [], false, .mv (.t 0)⟩,
  ⟨(some 10), (some (8, false)), [], false, .bin .gtr .other (.t 9) (.c (.int .i64 1000000))⟩,
  ⟨(some 11), none, [], false, .pick (.t 8) (.c (.bool true)) (.t 10)⟩,
  ⟨(some 4), none, [], false, .mv (.t 11)⟩]
def f69 : Fn := ⟨[0, 1, 4], (.seq (.reg false f69r0) (.seq (.reg false f69r1) .ret)), [.tmp 4]⟩
/-! 70: stolon/addr.IsAsked -/
def f70r0 : List I := [⟨(some 2), none, [], false, .mv (.c (.bool false))⟩]
def f70r1 : List I := [⟨(some 3), none, [], false, .mv (.t 0)⟩,
  ⟨(some 4), none, [], false, .call 89 [(.t 3)]⟩,
  ⟨(some 5), none, [], false, .mv (.t 4)⟩,
  ⟨(some 6), (some (5, true)), [], false, .mv (.t 0)⟩,
  ⟨(some 7), (some (5, true)), [], false, .call 90 [(.t 6)]⟩,
  ⟨(some 8), (some (5, true)), [], false, .un .not (.t 7)⟩,
  ⟨(some 9), none, [], false, .pick (.t 5) (.t 8) (.c (.bool false))⟩,
  ⟨(some 2), none, [], false, .mv (.t 9)⟩]
def f70 : Fn := ⟨[0, 2], (.seq (.reg false f70r0) (.seq (.reg false f70r1) .ret)), [.tmp 2]⟩
/-! 71: cmp.isNaN[int] -/
def f71r0 : List I := [⟨(some 2), none, [], false, .mv (.c (.bool false))⟩]
def f71r1 : List I := [⟨(some 3), none, [], false, .mv (.t 0)⟩,
  ⟨(some 4), none, [], false, .mv (.t 0)⟩,
  ⟨(some 5), none, [], false, .bin .neq .other (.t 3) (.t 4)⟩,
  ⟨(some 2), none, [], false, .mv (.t 5)⟩]
def f71 : Fn := ⟨[0, 2], (.seq (.reg false f71r0) (.seq (.reg false f71r1) .ret)), [.tmp 2]⟩
/-! 72: cmp.isNaN[stolon/api.Addr] -/
def f72r0 : List I := [⟨(some 2), none, [], false, .mv (.c (.bool false))⟩]
def f72r1 : List I := [⟨(some 3), none, [], false, .mv (.t 0)⟩,
  ⟨(some 4), none, [], false, .mv (.t 0)⟩,
  ⟨(some 5), none, [], false, .bin .neq .other (.t 3) (.t 4)⟩,
  ⟨(some 2), none, [], false, .mv (.t 5)⟩]
def f72 : Fn := ⟨[0, 2], (.seq (.reg false f72r0) (.seq (.reg false f72r1) .ret)), [.tmp 2]⟩
/-! 73: (*stolon/memb.work).allow -/
def f73r0 : List I := [⟨(some 2), none, [], false, .mv (.t 0)⟩,
  ⟨(some 3), none, [], false, .mv (.t 0)⟩,
  ⟨(some 4), none, [], false, .nck (.t 3)⟩,
  ⟨(some 5), none, [], false, .fad 6 (.t 4)⟩,
  ⟨(some 6), none, [], false, .ld false 1 (.t 5)⟩,
  ⟨(some 7), none, [], false, .mv (.t 0)⟩,
  ⟨(some 8), none, [], false, .nck (.t 7)⟩,
  ⟨(some 9), none, [], false, .fad 4 (.t 8)⟩,
  ⟨(some 10), none, [], false, .fad 0 (.t 9)⟩,
  ⟨(some 11), none, [], false, .ld false 1 (.t 10)⟩,
  ⟨(some 12), none, [], false, .call 91 [(.t 2), (.t 6), (.t 11)]⟩]
def f73 : Fn := ⟨[0], (.reg true f73r0), []⟩
/-! 74: (*stolon/memb.work).isEx -/
def f74r0 : List I := [⟨(some 2), none, [], false, .mv (.t 0)⟩,
  ⟨(some 3), none, [], false, .nck (.t 2)⟩,
  ⟨(some 4), none, [], false, .fad 0 (.t 3)⟩,
  ⟨(some 5), none, [], false, .fad 1 (.t 4)⟩,
  ⟨(some 6), none, [], false, .ld false 1 (.t 5)⟩]
def f74r1 : List I := [⟨(some 7), none, [], false, .mv (.t 0)⟩,
  ⟨(some 8), none, [], false, .mv (.t 0)⟩,
  ⟨(some 9), none, [], false, .nck (.t 8)⟩,
  ⟨(some 10), none, [], false, .fad 4 (.t 9)⟩,
  ⟨(some 11), none, [], false, .fad 0 (.t 10)⟩,
  ⟨(some 12), none, [], false, .ld false 1 (.t 11)⟩,
  ⟨(some 13), none, [], false, .call 92 [(.t 7), (.t 12)]⟩]
def f74r2 : List I := [⟨(some 14), none, [], false, .mv (.t 0)⟩,
  ⟨(some 15), none, [], false, .call 92 [(.t 14), (.c (.int .i64 0))]⟩]
def f74 : Fn := ⟨[0, 6], (.seq (.seq (.reg false f74r0) (.cond (.t 6) (.seq (.reg false f74r1) .ret) .skip)) (.reg false f74r2)), []⟩
/-! 75: (*stolon/memb.work).block -/
def f75r0 : List I := [⟨(some 3), none, [], false, .mv (.t 0)⟩,
  ⟨(some 4), none, [], false, .nck (.t 3)⟩,
  ⟨(some 5), none, [], false, .fad 0 (.t 4)⟩,
  ⟨(some 6), none, [], false, .fad 1 (.t 5)⟩,
  ⟨(some 7), none, [], false, .ld false 1 (.t 6)⟩,
  ⟨(some 8), none, [], false, .un .not (.t 7)⟩]
def f75r1 : List I := [⟨(some 9), none, [], false, .mv (.t 0)⟩,
  ⟨(some 10), none, [], false, .mv (.t 0)⟩,
  ⟨(some 11), none, [], false, .call 95 [(.t 10)]⟩,
  ⟨(some 12), none, [], false, .mv (.t 0)⟩,
  ⟨(some 13), none, [], false, .nck (.t 12)⟩,
  ⟨(some 14), none, [], false, .fad 6 (.t 13)⟩,
  ⟨(some 15), none, [], false, .ld false 1 (.t 14)⟩,
  ⟨(some 16), none, [], false, .call 94 [(.t 11), (.t 15)]⟩,
  ⟨(some 17), none, [], false, .call 93 [(.t 9), (.t 16)]⟩]
def f75r2 : List I := [⟨(some 18), none, [], false, .mv (.t 0)⟩,
  ⟨(some 19), none, [], false, .call 96 [(.t 18)]⟩,
  ⟨(some 2), none, [], false, .mv (.t 19)⟩]
def f75r3 : List I := [⟨(some 20), none, [], false, .mv (.t 0)⟩,
  ⟨(some 21), none, [], false, .mv (.t 0)⟩,
  ⟨(some 22), none, [], false, .nck (.t 21)⟩,
  ⟨(some 23), none, [], false, .fad 6 (.t 22)⟩,
  ⟨(some 24), none, [], false, .ld false 1 (.t 23)⟩,
  ⟨(some 25), none, [], false, .mv (.t 0)⟩,
  ⟨(some 26), none, [], false, .call 95 [(.t 25)]⟩,
  ⟨(some 27), none, [], false, .call 97 [(.t 24), (.t 26)]⟩,
  ⟨(some 28), none, [], false, .mv (.t 0)⟩,
  ⟨(some 29), none, [], false, .nck (.t 28)⟩,
  ⟨(some 30), none, [], false, .fad 0 (.t 29)⟩,
  ⟨(some 31), none, [], false, .fad 2 (.t 30)⟩,
  ⟨(some 32), none, [], false, .ld false 1 (.t 31)⟩,
  ⟨(some 33), none, [], false, .call 91 [(.t 20), (.t 27), (.t 32)]⟩]
def f75r4 : List I := [⟨(some 34), none, [], false, .mv (.t 0)⟩,
  ⟨(some 35), none, [], false, .mv (.t 0)⟩,
  ⟨(some 36), none, [], false, .nck (.t 35)⟩,
  ⟨(some 37), none, [], false, .fad 6 (.t 36)⟩,
  ⟨(some 38), none, [], false, .ld false 1 (.t 37)⟩,
  ⟨(some 39), none, [], false, .mv (.t 2)⟩,
  ⟨(some 40), none, [], false, .call 97 [(.t 38), (.t 39)]⟩,
  ⟨(some 41), none, [], false, .call 93 [(.t 34), (.t 40)]⟩]
def f75 : Fn := ⟨[0, 2, 8], (.seq (.seq (.reg false f75r0) (.cond (.t 8) (.seq (.reg true f75r1) .ret) .skip)) (.seq (.reg false f75r2) (.seq (.reg true f75r3) (.reg false f75r4)))), []⟩
/-! 76: (*stolon/memb.work).toEx -/
def f76r0 : List I := [⟨(some 4), none, [], false, .mv (.t 0)⟩,
  ⟨(some 5), none, [], false, .nck (.t 4)⟩,
  ⟨(some 6), none, [], false, .fad 0 (.t 5)⟩,
  ⟨(some 7), none, [], false, .fad 1 (.t 6)⟩,
  ⟨(some 8), none, [], false, .ld false 1 (.t 7)⟩,
  ⟨(some 9), none, [], false, .un .not (.t 8)⟩]
def f76r1 : List I := [⟨(some 10), none, [], false, .mv (.t 0)⟩,
  ⟨(some 11), none, [], false, .call 95 [(.t 10)]⟩,
  ⟨(some 12), none, [], false, .mv (.t 0)⟩,
  ⟨(some 13), none, [], false, .nck (.t 12)⟩,
  ⟨(some 14), none, [], false, .fad 6 (.t 13)⟩,
  ⟨(some 15), none, [], false, .ld false 1 (.t 14)⟩,
  ⟨(some 16), none, [], false, .call 94 [(.t 11), (.t 15)]⟩,
  ⟨(some 2), none, [], false, .mv (.t 16)⟩]
def f76r2 : List I := [⟨(some 17), none, [], false, .mv (.t 0)⟩,
  ⟨(some 18), none, [], false, .call 92 [(.t 17), (.c (.int .i64 0))]⟩]
def f76r3 : List I := [⟨(some 19), none, [], false, .mv (.t 0)⟩,
  ⟨(some 20), none, [], false, .mv (.t 2)⟩,
  ⟨(some 21), none, [], false, .call 93 [(.t 19), (.t 20)]⟩]
def f76r4 : List I := [⟨(some 22), none, [], false, .mv (.t 0)⟩,
  ⟨(some 23), none, [], false, .call 96 [(.t 22)]⟩,
  ⟨(some 3), none, [], false, .mv (.t 23)⟩]
def f76r5 : List I := [⟨(some 24), none, [], false, .mv (.t 0)⟩,
  ⟨(some 25), none, [], false, .mv (.t 0)⟩,
  ⟨(some 26), none, [], false, .nck (.t 25)⟩,
  ⟨(some 27), none, [], false, .fad 0 (.t 26)⟩,
  ⟨(some 28), none, [], false, .fad 2 (.t 27)⟩,
  ⟨(some 29), none, [], false, .ld false 1 (.t 28)⟩,
  ⟨(some 30), none, [], false, .call 92 [(.t 24), (.t 29)]⟩]
def f76r6 : List I := [⟨(some 31), none, [], false, .mv (.t 0)⟩,
  ⟨(some 32), none, [], false, .mv (.t 0)⟩,
  ⟨(some 33), none, [], false, .nck (.t 32)⟩,
  ⟨(some 34), none, [], false, .fad 6 (.t 33)⟩,
  ⟨(some 35), none, [], false, .ld false 1 (.t 34)⟩,
  ⟨(some 36), none, [], false, .mv (.t 3)⟩,
  ⟨(some 37), none, [], false, .call 97 [(.t 35), (.t 36)]⟩,
  ⟨(some 38), none, [], false, .call 93 [(.t 31), (.t 37)]⟩]
def f76 : Fn := ⟨[0, 2, 3, 9], (.seq (.seq (.reg false f76r0) (.cond (.t 9) (.seq (.reg true f76r1) (.seq (.reg false f76r2) (.seq (.reg false f76r3) .ret))) .skip)) (.seq (.reg false f76r4) (.seq (.reg false f76r5) (.reg false f76r6)))), []⟩
/-! 77: (*stolon/memb.work).toIn -/
def f77r0 : List I := [⟨(some 3), none, [], false, .mv (.t 0)⟩,
  ⟨(some 4), none, [], false, .call 98 [(.t 3)]⟩,
  ⟨(some 2), none, [], false, .mv (.t 4)⟩]
def f77r1 : List I := [⟨(some 5), none, [], false, .mv (.t 0)⟩,
  ⟨(some 6), none, [], false, .call 73 [(.t 5)]⟩]
def f77r2 : List I := [⟨(some 7), none, [], false, .mv (.t 0)⟩,
  ⟨(some 8), none, [], false, .mv (.t 2)⟩,
  ⟨(some 9), none, [], false, .mv (.t 0)⟩,
  ⟨(some 10), none, [], false, .nck (.t 9)⟩,
  ⟨(some 11), none, [], false, .fad 6 (.t 10)⟩,
  ⟨(some 12), none, [], false, .ld false 1 (.t 11)⟩,
  ⟨(some 13), none, [], false, .call 97 [(.t 8), (.t 12)]⟩,
  ⟨(some 14), none, [], false, .call 93 [(.t 7), (.t 13)]⟩]
def f77r3 : List I := [⟨(some 15), none, [], false, .mv (.t 0)⟩,
  ⟨(some 16), none, [], false, .nck (.t 15)⟩,
  ⟨(some 17), none, [], false, .fad 0 (.t 16)⟩,
  ⟨(some 18), none, [], false, .fad 1 (.t 17)⟩,
  ⟨(some 19), none, [], false, .ld false 1 (.t 18)⟩]
def f77r4 : List I := [⟨(some 20), none, [], false, .mv (.t 0)⟩,
  ⟨(some 21), none, [], false, .mv (.t 0)⟩,
  ⟨(some 22), none, [], false, .nck (.t 21)⟩,
  ⟨(some 23), none, [], false, .fad 0 (.t 22)⟩,
  ⟨(some 24), none, [], false, .fad 2 (.t 23)⟩,
  ⟨(some 25), none, [], false, .ld false 1 (.t 24)⟩,
  ⟨(some 26), none, [], false, .mv (.t 0)⟩,
  ⟨(some 27), none, [], false, .nck (.t 26)⟩,
  ⟨(some 28), none, [], false, .fad 4 (.t 27)⟩,
  ⟨(some 29), none, [], false, .fad 1 (.t 28)⟩,
  ⟨(some 30), none, [], false, .ld false 1 (.t 29)⟩,
  ⟨(some 31), none, [], false, .mn (.t 25) [(.t 30)]⟩,
  ⟨(some 32), none, [], false, .nck (.t 20)⟩,
  ⟨(some 33), none, [], false, .fad 0 (.t 32)⟩,
  ⟨(some 34), none, [], false, .fad 2 (.t 33)⟩,
  ⟨none, none, [], false, .st 1 (.t 34) (.t 31)⟩]
def f77r5 : List I := [⟨(some 36), none, [], false, .mv (.t 0)⟩,
  ⟨(some 37), none, [], false, .nck (.t 36)⟩,
  ⟨(some 38), none, [], false, .fad 7 (.t 37)⟩,
  ⟨(some 39), none, [false], false, .ld false 1 (.t 38)⟩,
  ⟨(some 40), none, [], false, .mv (.t 0)⟩,
  ⟨(some 41), none, [], false, .nck (.t 40)⟩,
  ⟨(some 42), none, [], false, .fad 0 (.t 41)⟩,
  ⟨(some 43), none, [], false, .fad 0 (.t 42)⟩,
  ⟨(some 44), none, [false], false, .ld false 1 (.t 43)⟩,
  ⟨(some 45), none, [], false, .build [.int .u32 0, nilS] [(0, 1, (.t 44))]⟩,
  ⟨(some 46), none, [], false, .bslice 2 1 [.int .u32 0, nilS] [(0, 2, (.t 45))]⟩,
  ⟨(some 47), none, [], false, .app 2 32 (.t 39) (.t 46)⟩,
  ⟨(some 35), none, [], false, .mv (.t 0)⟩,
  ⟨(some 48), none, [], false, .nck (.t 35)⟩,
  ⟨(some 49), none, [], false, .fad 7 (.t 48)⟩,
  ⟨none, none, [], false, .st 1 (.t 49) (.t 47)⟩]
def f77 : Fn := ⟨[0, 2, 19], (.seq (.reg false f77r0) (.seq (.reg false f77r1) (.seq (.reg false f77r2) (.seq (.reg false f77r3) (.cond (.t 19) (.seq (.reg true f77r4) (.reg true f77r5)) .skip))))), []⟩
/-! 78: stolon/set.Make -/
def f78r0 : List I := [⟨(some 2), none, [], false, .mv (.c (nilS))⟩]
def f78r1 : List I := [⟨(some 3), none, [], false, .mv (.t 0)⟩,
  ⟨(some 4), none, [], false, .call 101 [(.t 3)]⟩,
  ⟨(some 5), none, [], false, .call 100 [(.t 4)]⟩,
  ⟨(some 6), none, [], false, .call 99 [(.t 5)]⟩,
  ⟨(some 2), none, [], false, .mv (.t 6)⟩]
def f78 : Fn := ⟨[0, 2], (.seq (.reg false f78r0) (.seq (.reg false f78r1) .ret)), [.tmp 2]⟩
/-! 79: slices.Clone[[]stolon/api.Held,stolon/api.Held] -/
def f79r0 : List I := [⟨(some 2), none, [], false, .mv (.c (nilS))⟩]
def f79r1 : List I := [⟨(some 3), none, [], false, .mv (.t 0)⟩,
  ⟨(some 4), none, [], false, .bin .eql .slice (.t 3) (.c (nilS))⟩]
def f79r2 : List I := [⟨(some 2), none, [], false, .mv (.c (nilS))⟩]
def f79r3 : List I := [⟨(some 5), none, [], false, .bslice 2 0 [] []⟩,
  ⟨(some 6), none, [], false, .mv (.t 0)⟩,
  ⟨(some 7), none, [], false, .app 2 16 (.t 5) (.t 6)⟩,
  ⟨(some 2), none, [], false, .mv (.t 7)⟩]
def f79 : Fn := ⟨[0, 2, 4], (.seq (.reg false f79r0) (.seq (.seq (.reg false f79r1) (.cond (.t 4) (.seq (.reg false f79r2) .ret) .skip)) (.seq (.reg false f79r3) .ret))), [.tmp 2]⟩
/-! 81: slices.rotateRight[stolon/api.Place] -/
def f81r0 : List I := [⟨(some 4), none, [], false, .mv (.t 0)⟩,
  ⟨(some 5), none, [], false, .mv (.t 0)⟩,
  ⟨(some 6), none, [], false, .len (.t 5)⟩,
  ⟨(some 7), none, [], false, .mv (.t 1)⟩,
  ⟨(some 8), none, [], false, .bin .sub .other (.t 6) (.t 7)⟩,
  ⟨(some 9), none, [], false, .call 102 [(.t 4), (.t 8)]⟩]
def f81 : Fn := ⟨[0, 1], (.reg false f81r0), []⟩
/-! 82: stolon/stolonref06.Has -/
def f82r0 : List I := [⟨(some 4), none, [], false, .mv (.c (.bool false))⟩]
def f82r1 : List I := [⟨(some 5), none, [], false, .mv (.c (.int .i64 0))⟩]
def f82r2 : List I := [⟨(some 6), none, [], false, .mv (.t 5)⟩,
  ⟨(some 7), none, [], false, .mv (.t 0)⟩,
  ⟨(some 8), none, [], false, .len (.t 7)⟩,
  ⟨(some 9), none, [], false, .bin .lss .other (.t 6) (.t 8)⟩]
def f82r3 : List I := [⟨(some 12), none, [], false, .mv (.t 0)⟩,
  ⟨(some 13), none, [], false, .mv (.t 5)⟩,
  ⟨(some 14), none, [], false, .iad 1 none (.t 12) (.t 13)⟩,
  ⟨(some 15), none, [], false, .ld false 1 (.t 14)⟩,
  ⟨(some 16), none, [], false, .mv (.t 1)⟩,
  ⟨(some 17), none, [], false, .bin .eql .other (.t 15) (.t 16)⟩]
def f82r4 : List I := [⟨(some 4), none, [], false, .mv (.c (.bool true))⟩]
def f82r5 : List I := [⟨(some 10), none, [], false, .mv (.t 5)⟩,
  ⟨(some 11), none, [], false, .bin .add .other (.t 10) (.c (.int .i64 1))⟩,
  ⟨(some 5), none, [], false, .mv (.t 11)⟩]
def f82l0 : C := (.seq (.seq (.reg false f82r2) (.cond (.t 9) .skip (.exit 0))) (.seq (.block 1 (.seq (.reg false f82r3) (.cond (.t 17) (.seq (.reg false f82r4) .ret) .skip))) (.reg false f82r5)))
def f82r6 : List I := [⟨(some 4), none, [], false, .mv (.c (.bool false))⟩]
def f82 : Fn := ⟨[0, 1, 4, 5, 9, 17], (.seq (.reg false f82r0) (.seq (.seq (.reg false f82r1) (.block 0 (.loop f82l0))) (.seq (.reg false f82r6) .ret))), [.tmp 4]⟩
/-! 83: stolon/stolonref08.sets -/
def f83r0 : List I := [⟨(some 1), none, [], false, .box (.t 0)⟩,
  ⟨(some 2), none, [], false, .mv (.c (nilS))⟩,
  ⟨(some 3), none, [], false, .mv (.c (nilS))⟩]
def f83r1 : List I := [⟨(some 4), none, [], false, .mv (.c (nilS))⟩]
def f83r2 : List I := [⟨(some 5), none, [], false, .mv (.c (nilS))⟩]
def f83r3 : List I := [⟨(some 6), none, [], false, .mv (.c (.int .i64 0))⟩]
def f83r4 : List I := [⟨(some 7), none, [], false, .mv (.t 6)⟩,
  ⟨(some 8), none, [], false, .fad 3 (.t 1)⟩,
  ⟨(some 9), none, [], false, .ld false 1 (.t 8)⟩,
  ⟨(some 10), none, [], false, .len (.t 9)⟩,
  ⟨(some 11), none, [], false, .bin .lss .other (.t 7) (.t 10)⟩]
def f83r5 : List I := [⟨(some 14), none, [], false, .fad 3 (.t 1)⟩,
  ⟨(some 15), none, [], false, .ld false 1 (.t 14)⟩,
  ⟨(some 16), none, [], false, .mv (.t 6)⟩,
  ⟨(some 17), none, [], false, .iad 2 none (.t 15) (.t 16)⟩,
  ⟨(some 18), none, [], false, .fad 1 (.t 17)⟩,
  ⟨(some 19), none, [], false, .ld false 1 (.t 18)⟩,
  ⟨(some 20), none, [], false, .bin .gtr .other (.t 19) (.c (.int .i64 0))⟩]
def f83r6 : List I := [⟨(some 21), none, [], false, .mv (.t 4)⟩,
  ⟨(some 22), none, [], false, .fad 3 (.t 1)⟩,
  ⟨(some 23), none, [], false, .ld false 1 (.t 22)⟩,
  ⟨(some 24), none, [], false, .mv (.t 6)⟩,
  ⟨(some 25), none, [], false, .iad 2 none (.t 23) (.t 24)⟩,
  ⟨(some 26), none, [], false, .fad 0 (.t 25)⟩,
  ⟨(some 27), none, [], false, .ld false 1 (.t 26)⟩,
  ⟨(some 28), none, [], false, .bslice 1 1 [.int .u32 0] [(0, 1, (.t 27))]⟩,
  ⟨(some 29), none, [], false, .app 1 4 (.t 21) (.t 28)⟩,
  ⟨(some 4), none, [], false, .mv (.t 29)⟩]
def f83r7 : List I := [⟨(some 30), none, [], false, .mv (.t 5)⟩,
  ⟨(some 31), none, [], false, .fad 3 (.t 1)⟩,
  ⟨(some 32), none, [], false, .ld false 1 (.t 31)⟩,
  ⟨(some 33), none, [], false, .mv (.t 6)⟩,
  ⟨(some 34), none, [], false, .iad 2 none (.t 32) (.t 33)⟩,
  ⟨(some 35), none, [], false, .fad 0 (.t 34)⟩,
  ⟨(some 36), none, [], false, .ld false 1 (.t 35)⟩,
  ⟨(some 37), none, [], false, .bslice 1 1 [.int .u32 0] [(0, 1, (.t 36))]⟩,
  ⟨(some 38), none, [], false, .app 1 4 (.t 30) (.t 37)⟩,
  ⟨(some 5), none, [], false, .mv (.t 38)⟩]
def f83r8 : List I := [⟨(some 12), none, [], false, .mv (.t 6)⟩,
  ⟨(some 13), none, [], false, .bin .add .other (.t 12) (.c (.int .i64 1))⟩,
  ⟨(some 6), none, [], false, .mv (.t 13)⟩]
def f83l0 : C := (.seq (.seq (.reg false f83r4) (.cond (.t 11) .skip (.exit 0))) (.seq (.block 1 (.seq (.reg false f83r5) (.cond (.t 20) (.reg false f83r6) (.reg false f83r7)))) (.reg false f83r8)))
def f83r9 : List I := [⟨(some 39), none, [], false, .mv (.t 4)⟩,
  ⟨(some 40), none, [], false, .mv (.t 5)⟩,
  ⟨(some 2), none, [], false, .mv (.t 39)⟩,
  ⟨(some 3), none, [], false, .mv (.t 40)⟩]
def f83 : Fn := ⟨[0, 1, 2, 3, 4, 5, 6, 11, 20], (.seq (.reg false f83r0) (.seq (.reg false f83r1) (.seq (.reg false f83r2) (.seq (.seq (.reg false f83r3) (.block 0 (.loop f83l0))) (.seq (.reg false f83r9) .ret))))), [.tmp 2, .tmp 3]⟩
/-! 84: stolon/stolonref06.Union -/
def f84r0 : List I := [⟨(some 4), none, [], false, .mv (.c (nilS))⟩]
def f84r1 : List I := [⟨(some 5), none, [], false, .bslice 1 0 [] []⟩,
  ⟨(some 6), none, [], false, .mv (.t 0)⟩,
  ⟨(some 7), none, [], false, .app 1 4 (.t 5) (.t 6)⟩,
  ⟨(some 8), none, [], false, .mv (.t 1)⟩,
  ⟨(some 9), none, [], false, .app 1 4 (.t 7) (.t 8)⟩,
  ⟨(some 10), none, [], false, .call 64 [(.t 9)]⟩,
  ⟨(some 4), none, [], false, .mv (.t 10)⟩]
def f84 : Fn := ⟨[0, 1, 4], (.seq (.reg false f84r0) (.seq (.reg false f84r1) .ret)), [.tmp 4]⟩
/-! 85: stolon/stolonref08.held -/
def f85r0 : List I := [⟨(some 5), none, [], false, .box (.t 0)⟩,
  ⟨(some 10), none, [], false, .mv (.c (nilS))⟩]
def f85r1 : List I := [⟨(some 11), none, [], false, .mv (.c (nilS))⟩]
def f85r2 : List I := [⟨(some 12), none, [], false, .mv (.c (.int .i64 0))⟩]
def f85r3 : List I := [⟨(some 15), none, [], false, .mv (.t 12)⟩,
  ⟨(some 16), none, [], false, .mv (.t 1)⟩,
  ⟨(some 17), none, [], false, .len (.t 16)⟩,
  ⟨(some 18), none, [], false, .bin .lss .other (.t 15) (.t 17)⟩]
def f85r4 : List I := [⟨(some 21), none, [], false, .ld true 4 (.t 5)⟩,
  ⟨(some 22), none, [], false, .mv (.t 1)⟩,
  ⟨(some 23), none, [], false, .mv (.t 12)⟩,
  ⟨(some 24), none, [], false, .iad 1 none (.t 22) (.t 23)⟩,
  ⟨(some 25), none, [], false, .ld false 1 (.t 24)⟩,
  ⟨(some 26), none, [], false, .call 103 [(.t 21), (.t 25)]⟩,
  ⟨(some 13), none, [], false, .mv (.t 26)⟩]
def f85r5 : List I := [⟨(some 27), none, [], false, .mv (.t 13)⟩,
  ⟨(some 28), none, [], false, .bin .lss .other (.t 27) (.c (.int .i64 0))⟩]
def f85r6 : List I := [⟨(some 29), none, [], false, .mv (.t 2)⟩,
  ⟨(some 13), none, [], false, .mv (.t 29)⟩]
def f85r7 : List I := [⟨(some 30), none, [], false, .mv (.t 3)⟩,
  ⟨(some 31), none, [], false, .mv (.t 1)⟩,
  ⟨(some 32), none, [], false, .mv (.t 12)⟩,
  ⟨(some 33), none, [], false, .iad 1 none (.t 31) (.t 32)⟩,
  ⟨(some 34), none, [], false, .ld false 1 (.t 33)⟩,
  ⟨(some 35), none, [], false, .call 82 [(.t 30), (.t 34)]⟩,
  ⟨(some 14), none, [], false, .mv (.t 35)⟩]
def f85r8 : List I := [⟨(some 36), none, [], false, .mv (.t 14)⟩]
def f85r9 : List I := [⟨(some 37), none, [], false, .mv (.t 4)⟩,
  ⟨(some 13), none, [], false, .mv (.t 37)⟩]
def f85r10 : List I := [⟨(some 38), none, [], false, .mv (.t 11)⟩,
  ⟨(some 39), none, [], false, .mv (.t 1)⟩,
  ⟨(some 40), none, [], false, .mv (.t 12)⟩,
  ⟨(some 41), none, [], false, .iad 1 none (.t 39) (.t 40)⟩,
  ⟨(some 42), none, [], false, .ld false 1 (.t 41)⟩,
  ⟨(some 43), none, [], false, .mv (.t 13)⟩,
  ⟨(some 44), none, [], false, .build [.int .u32 0, .int .i64 0] [(0, 1, (.t 42)), (1, 1, (.t 43))]⟩,
  ⟨(some 45), none, [], false, .bslice 2 1 [.int .u32 0, .int .i64 0] [(0, 2, (.t 44))]⟩,
  ⟨(some 46), none, [], false, .app 2 16 (.t 38) (.t 45)⟩,
  ⟨(some 11), none, [], false, .mv (.t 46)⟩]
def f85r11 : List I := [⟨(some 19), none, [], false, .mv (.t 12)⟩,
  ⟨(some 20), none, [], false, .bin .add .other (.t 19) (.c (.int .i64 1))⟩,
  ⟨(some 12), none, [], false, .mv (.t 20)⟩]
def f85l0 : C := (.seq (.seq (.reg false f85r3) (.cond (.t 18) .skip (.exit 0))) (.seq (.block 1 (.seq (.reg true f85r4) (.seq (.seq (.reg false f85r5) (.cond (.t 28) (.reg false f85r6) .skip)) (.seq (.reg false f85r7) (.seq (.seq (.reg false f85r8) (.cond (.t 36) (.reg false f85r9) .skip)) (.reg false f85r10)))))) (.reg false f85r11)))
def f85r12 : List I := [⟨(some 47), none, [], false, .mv (.t 11)⟩,
  ⟨(some 10), none, [], false, .mv (.t 47)⟩]
def f85 : Fn := ⟨[0, 1, 2, 3, 4, 5, 10, 11, 12, 13, 14, 18, 28, 36], (.seq (.reg false f85r0) (.seq (.reg false f85r1) (.seq (.seq (.reg false f85r2) (.block 0 (.loop f85l0))) (.seq (.reg false f85r12) .ret)))), [.tmp 10]⟩
/-! 86: stolon/stolonref08.asked -/
def f86r0 : List I := [⟨(some 4), none, [], false, .box (.t 0)⟩,
  ⟨(some 8), none, [], false, .alloc [nilS, .bool false, .int .i64 0, nilS]⟩]
def f86r1 : List I := [⟨(some 13), none, [], false, .mv (.t 2)⟩,
  ⟨(some 14), none, [], false, .len (.t 13)⟩,
  ⟨(some 15), none, [], false, .bin .eql .other (.t 14) (.c (.int .i64 0))⟩]
def f86r2 : List I := [⟨(some 16), none, [], false, .ld true 4 (.t 4)⟩,
  ⟨none, none, [], false, .st 4 (.t 8) (.t 16)⟩]
def f86r3 : List I := [⟨(some 9), none, [], false, .mv (.c (nilS))⟩]
def f86r4 : List I := [⟨(some 10), none, [], false, .mv (.c (.int .i64 0))⟩]
def f86r5 : List I := [⟨(some 17), none, [], false, .mv (.t 10)⟩,
  ⟨(some 18), none, [], false, .fad 0 (.t 4)⟩,
  ⟨(some 19), none, [], false, .ld false 1 (.t 18)⟩,
  ⟨(some 20), none, [], false, .len (.t 19)⟩,
  ⟨(some 21), none, [], false, .bin .lss .other (.t 17) (.t 20)⟩]
def f86r6 : List I := [⟨(some 24), none, [], false, .fad 0 (.t 4)⟩,
  ⟨(some 25), none, [], false, .ld false 1 (.t 24)⟩,
  ⟨(some 26), none, [], false, .mv (.t 10)⟩,
  ⟨(some 27), none, [], false, .iad 2 none (.t 25) (.t 26)⟩,
  ⟨(some 28), none, [], false, .ld true 2 (.t 27)⟩,
  ⟨(some 11), none, [], false, .alloc [.int .u32 0, .int .i64 0]⟩,
  ⟨none, none, [], false, .st 2 (.t 11) (.t 28)⟩]
def f86r7 : List I := [⟨(some 29), none, [], false, .mv (.t 2)⟩,
  ⟨(some 30), none, [], false, .fad 0 (.t 11)⟩,
  ⟨(some 31), none, [], false, .ld false 1 (.t 30)⟩,
  ⟨(some 32), none, [], false, .call 82 [(.t 29), (.t 31)]⟩,
  ⟨(some 12), none, [], false, .mv (.t 32)⟩]
def f86r8 : List I := [⟨(some 33), none, [], false, .mv (.t 12)⟩,
  ⟨(some 34), none, [], false, .mv (.t 33)⟩,
  ⟨(some 35), (some (34, true)), [], false, .fad 1 (.t 11)⟩,
  ⟨(some 36), (some (34, true)), [], false, .ld false 1 (.t 35)⟩,
  ⟨(some 37), (some (34, true)), [], false, .mv (.t 3)⟩,
  ⟨(some 38), (some (34, true)), [], false, .bin .gtr .other (.t 36) (.t 37)⟩,
  ⟨(some 39), none, [], false, .pick (.t 34) (.t 38) (.c (.bool false))⟩]
def f86r9 : List I := [⟨(some 40), none, [], false, .mv (.t 3)⟩,
  ⟨(some 41), none, [], false, .fad 1 (.t 11)⟩,
  ⟨none, none, [], false, .st 1 (.t 41) (.t 40)⟩]
def f86r10 : List I := [⟨(some 42), none, [], false, .mv (.t 9)⟩,
  ⟨(some 43), none, [], false, .ld true 2 (.t 11)⟩,
  ⟨(some 44), none, [], false, .bslice 2 1 [.int .u32 0, .int .i64 0] [(0, 2, (.t 43))]⟩,
  ⟨(some 45), none, [], false, .app 2 16 (.t 42) (.t 44)⟩,
  ⟨(some 9), none, [], false, .mv (.t 45)⟩]
def f86r11 : List I := [⟨(some 22), none, [], false, .mv (.t 10)⟩,
  ⟨(some 23), none, [], false, .bin .add .other (.t 22) (.c (.int .i64 1))⟩,
  ⟨(some 10), none, [], false, .mv (.t 23)⟩]
def f86l0 : C := (.seq (.seq (.reg false f86r5) (.cond (.t 21) .skip (.exit 0))) (.seq (.block 1 (.seq (.reg false f86r6) (.seq (.reg false f86r7) (.seq (.seq (.reg false f86r8) (.cond (.t 39) (.reg false f86r9) .skip)) (.reg false f86r10))))) (.reg false f86r11)))
def f86 : Fn := ⟨[0, 2, 3, 4, 8, 9, 10, 11, 12, 15, 21, 39], (.seq (.reg false f86r0) (.seq (.seq (.reg false f86r1) (.cond (.t 15) (.seq (.reg false f86r2) .ret) .skip)) (.seq (.reg false f86r3) (.seq (.seq (.reg false f86r4) (.block 0 (.loop f86l0))) (.seq .bad .ret))))), [.cell 8 true 4]⟩
/-! 87: stolon/stolonref06.Inter -/
def f87r0 : List I := [⟨(some 4), none, [], false, .mv (.c (nilS))⟩]
def f87r1 : List I := [⟨(some 5), none, [], false, .mv (.c (nilS))⟩]
def f87r2 : List I := [⟨(some 6), none, [], false, .mv (.c (.int .i64 0))⟩]
def f87r3 : List I := [⟨(some 8), none, [], false, .mv (.t 6)⟩,
  ⟨(some 9), none, [], false, .mv (.t 0)⟩,
  ⟨(some 10), none, [], false, .len (.t 9)⟩,
  ⟨(some 11), none, [], false, .bin .lss .other (.t 8) (.t 10)⟩]
def f87r4 : List I := [⟨(some 14), none, [], false, .mv (.t 1)⟩,
  ⟨(some 15), none, [], false, .mv (.t 0)⟩,
  ⟨(some 16), none, [], false, .mv (.t 6)⟩,
  ⟨(some 17), none, [], false, .iad 1 none (.t 15) (.t 16)⟩,
  ⟨(some 18), none, [], false, .ld false 1 (.t 17)⟩,
  ⟨(some 19), none, [], false, .call 82 [(.t 14), (.t 18)]⟩,
  ⟨(some 7), none, [], false, .mv (.t 19)⟩]
def f87r5 : List I := [⟨(some 20), none, [], false, .mv (.t 7)⟩]
def f87r6 : List I := [⟨(some 21), none, [], false, .mv (.t 5)⟩,
  ⟨(some 22), none, [], false, .mv (.t 0)⟩,
  ⟨(some 23), none, [], false, .mv (.t 6)⟩,
  ⟨(some 24), none, [], false, .iad 1 none (.t 22) (.t 23)⟩,
  ⟨(some 25), none, [], false, .ld false 1 (.t 24)⟩,
  ⟨(some 26), none, [], false, .bslice 1 1 [.int .u32 0] [(0, 1, (.t 25))]⟩,
  ⟨(some 27), none, [], false, .app 1 4 (.t 21) (.t 26)⟩,
  ⟨(some 5), none, [], false, .mv (.t 27)⟩]
def f87r7 : List I := [⟨(some 12), none, [], false, .mv (.t 6)⟩,
  ⟨(some 13), none, [], false, .bin .add .other (.t 12) (.c (.int .i64 1))⟩,
  ⟨(some 6), none, [], false, .mv (.t 13)⟩]
def f87l0 : C := (.seq (.seq (.reg false f87r3) (.cond (.t 11) .skip (.exit 0))) (.seq (.block 1 (.seq (.reg false f87r4) (.seq (.reg false f87r5) (.cond (.t 20) (.reg false f87r6) .skip)))) (.reg false f87r7)))
def f87r8 : List I := [⟨(some 28), none, [], false, .mv (.t 5)⟩,
  ⟨(some 4), none, [], false, .mv (.t 28)⟩]
def f87 : Fn := ⟨[0, 1, 4, 5, 6, 7, 11, 20], (.seq (.reg false f87r0) (.seq (.reg false f87r1) (.seq (.seq (.reg false f87r2) (.block 0 (.loop f87l0))) (.seq (.reg false f87r8) .ret)))), [.tmp 4]⟩
/-! 88: stolon/stolonref06.Minus -/
def f88r0 : List I := [⟨(some 4), none, [], false, .mv (.c (nilS))⟩]
def f88r1 : List I := [⟨(some 5), none, [], false, .mv (.c (nilS))⟩]
def f88r2 : List I := [⟨(some 6), none, [], false, .mv (.c (.int .i64 0))⟩]
def f88r3 : List I := [⟨(some 8), none, [], false, .mv (.t 6)⟩,
  ⟨(some 9), none, [], false, .mv (.t 0)⟩,
  ⟨(some 10), none, [], false, .len (.t 9)⟩,
  ⟨(some 11), none, [], false, .bin .lss .other (.t 8) (.t 10)⟩]
def f88r4 : List I := [⟨(some 14), none, [], false, .mv (.t 1)⟩,
  ⟨(some 15), none, [], false, .mv (.t 0)⟩,
  ⟨(some 16), none, [], false, .mv (.t 6)⟩,
  ⟨(some 17), none, [], false, .iad 1 none (.t 15) (.t 16)⟩,
  ⟨(some 18), none, [], false, .ld false 1 (.t 17)⟩,
  ⟨(some 19), none, [], false, .call 82 [(.t 14), (.t 18)]⟩,
  ⟨(some 7), none, [], false, .mv (.t 19)⟩]
def f88r5 : List I := [⟨(some 20), none, [], false, .mv (.t 7)⟩,
  ⟨(some 21), none, [], false, .un .not (.t 20)⟩]
def f88r6 : List I := [⟨(some 22), none, [], false, .mv (.t 5)⟩,
  ⟨(some 23), none, [], false, .mv (.t 0)⟩,
  ⟨(some 24), none, [], false, .mv (.t 6)⟩,
  ⟨(some 25), none, [], false, .iad 1 none (.t 23) (.t 24)⟩,
  ⟨(some 26), none, [], false, .ld false 1 (.t 25)⟩,
  ⟨(some 27), none, [], false, .bslice 1 1 [.int .u32 0] [(0, 1, (.t 26))]⟩,
  ⟨(some 28), none, [], false, .app 1 4 (.t 22) (.t 27)⟩,
  ⟨(some 5), none, [], false, .mv (.t 28)⟩]
def f88r7 : List I := [⟨(some 12), none, [], false, .mv (.t 6)⟩,
  ⟨(some 13), none, [], false, .bin .add .other (.t 12) (.c (.int .i64 1))⟩,
  ⟨(some 6), none, [], false, .mv (.t 13)⟩]
def f88l0 : C := (.seq (.seq (.reg false f88r3) (.cond (.t 11) .skip (.exit 0))) (.seq (.block 1 (.seq (.reg false f88r4) (.seq (.reg false f88r5) (.cond (.t 21) (.reg false f88r6) .skip)))) (.reg false f88r7)))
def f88r8 : List I := [⟨(some 29), none, [], false, .mv (.t 5)⟩,
  ⟨(some 4), none, [], false, .mv (.t 29)⟩]
def f88 : Fn := ⟨[0, 1, 4, 5, 6, 7, 11, 21], (.seq (.reg false f88r0) (.seq (.reg false f88r1) (.seq (.seq (.reg false f88r2) (.block 0 (.loop f88l0))) (.seq (.reg false f88r8) .ret)))), [.tmp 4]⟩
/-! 89: stolon/addr.IsGroup -/
def f89r0 : List I := [⟨(some 2), none, [], false, .mv (.c (.bool false))⟩]
def f89r1 : List I := [⟨(some 3), none, [], false, .mv (.t 0)⟩,
  ⟨(some 4), none, [], false, .bin .shr .other (.t 3) (.c (.int .u64 28))⟩,
  ⟨(some 5), none, [], false, .bin .eql .other (.t 4) (.c (.int .u32 14))⟩,
  ⟨(some 2), none, [], false, .mv (.t 5)⟩]
def f89 : Fn := ⟨[0, 2], (.seq (.reg false f89r0) (.seq (.reg false f89r1) .ret)), [.tmp 2]⟩
/-! 90: stolon/addr.IsLocal -/
def f90r0 : List I := [⟨(some 2), none, [], false, .mv (.c (.bool false))⟩]
def f90r1 : List I := [⟨(some 3), none, [], false, .mv (.t 0)⟩,
  ⟨(some 4), none, [], false, .bin .shr .other (.t 3) (.c (.int .u64 8))⟩,
  ⟨(some 5), none, [], false, .bin .eql .other (.t 4) (.c (.int .u32 14680064))⟩,
  ⟨(some 2), none, [], false, .mv (.t 5)⟩]
def f90 : Fn := ⟨[0, 2], (.seq (.reg false f90r0) (.seq (.reg false f90r1) .ret)), [.tmp 2]⟩
/-! 91: (*stolon/memb.work).keep -/
def f91r0 : List I := [⟨(some 10), none, [], false, .mv (.t 1)⟩,
  ⟨(some 11), none, [], false, .len (.t 10)⟩,
  ⟨(some 12), none, [], false, .mv (.c (.int .i64 0))⟩]
def f91r1 : List I := [⟨(some 13), none, [], false, .bin .lss .other (.t 12) (.t 11)⟩]
def f91r2 : List I := [⟨(some 14), none, [], false, .iad 1 none (.t 10) (.t 12)⟩,
  ⟨(some 15), none, [], false, .ld false 1 (.t 14)⟩,
  ⟨(some 7), none, [], false, .mv (.t 15)⟩]
def f91r3 : List I := [⟨(some 17), none, [], false, .mv (.t 0)⟩,
  ⟨(some 18), none, [], false, .nck (.t 17)⟩,
  ⟨(some 19), none, [], false, .fad 0 (.t 18)⟩,
  ⟨(some 20), none, [], false, .fad 3 (.t 19)⟩,
  ⟨(some 21), none, [], false, .ld false 1 (.t 20)⟩,
  ⟨(some 22), none, [], false, .mv (.t 7)⟩,
  ⟨(some 23), none, [], false, .call 53 [(.t 21), (.t 22)]⟩,
  ⟨(some 16), none, [], false, .mv (.t 23)⟩,
  ⟨(some 24), none, [], false, .ext 0 (.t 16)⟩,
  ⟨(some 25), none, [], false, .ext 1 (.t 16)⟩,
  ⟨(some 8), none, [], false, .mv (.t 24)⟩,
  ⟨(some 9), none, [], false, .mv (.t 25)⟩]
def f91r4 : List I := [⟨(some 26), none, [], false, .mv (.t 9)⟩]
def f91r5 : List I := [⟨(some 27), none, [], false, .mv (.t 0)⟩,
  ⟨(some 28), none, [], false, .nck (.t 27)⟩,
  ⟨(some 29), none, [], false, .fad 0 (.t 28)⟩,
  ⟨(some 30), none, [], false, .fad 3 (.t 29)⟩,
  ⟨(some 31), none, [], false, .ld false 1 (.t 30)⟩,
  ⟨(some 32), none, [], false, .mv (.t 8)⟩,
  ⟨(some 33), none, [], false, .mv (.t 2)⟩,
  ⟨(some 34), none, [], false, .iad 2 none (.t 31) (.t 32)⟩,
  ⟨(some 35), none, [], false, .fad 1 (.t 34)⟩,
  ⟨none, none, [], false, .st 1 (.t 35) (.t 33)⟩]
def f91r6 : List I := [⟨(some 36), none, [], false, .mv (.t 0)⟩,
  ⟨(some 37), none, [], false, .mv (.t 0)⟩,
  ⟨(some 38), none, [], false, .nck (.t 37)⟩,
  ⟨(some 39), none, [], false, .fad 0 (.t 38)⟩,
  ⟨(some 40), none, [], false, .fad 3 (.t 39)⟩,
  ⟨(some 41), none, [], false, .ld false 1 (.t 40)⟩,
  ⟨(some 42), none, [], false, .mv (.t 8)⟩,
  ⟨(some 43), none, [], false, .mv (.t 7)⟩,
  ⟨(some 44), none, [], false, .mv (.t 2)⟩,
  ⟨(some 45), none, [], false, .build [.int .u32 0, .int .i64 0] [(0, 1, (.t 43)), (1, 1, (.t 44))]⟩,
  ⟨(some 46), none, [], false, .bslice 2 1 [.int .u32 0, .int .i64 0] [(0, 2, (.t 45))]⟩,
  ⟨(some 47), none, [], false, .call 104 [(.t 41), (.t 42), (.t 46)]⟩,
  ⟨(some 48), none, [], false, .nck (.t 36)⟩,
  ⟨(some 49), none, [], false, .fad 0 (.t 48)⟩,
  ⟨(some 50), none, [], false, .fad 3 (.t 49)⟩,
  ⟨none, none, [], false, .st 1 (.t 50) (.t 47)⟩]
def f91r7 : List I := [⟨(some 51), none, [], false, .bin .add .other (.t 12) (.c (.int .i64 1))⟩,
  ⟨(some 12), none, [], false, .mv (.t 51)⟩]
def f91l0 : C := (.seq (.reg false f91r1) (.seq (.cond (.t 13) .skip (.exit 0)) (.seq (.block 1 (.seq (.reg false f91r2) (.seq (.reg false f91r3) (.seq (.reg false f91r4) (.cond (.t 26) (.reg false f91r5) (.reg false f91r6)))))) (.reg false f91r7))))
def f91 : Fn := ⟨[0, 1, 2, 7, 8, 9, 10, 11, 12, 13, 26], (.seq (.reg false f91r0) (.block 0 (.loop f91l0))), []⟩
/-! 92: (*stolon/memb.work).except -/
def f92r0 : List I := [⟨(some 5), none, [], false, .mv (.t 0)⟩,
  ⟨(some 6), none, [], false, .nck (.t 5)⟩,
  ⟨(some 7), none, [], false, .fad 6 (.t 6)⟩,
  ⟨(some 8), none, [], false, .ld false 1 (.t 7)⟩,
  ⟨(some 9), none, [], false, .mv (.t 0)⟩,
  ⟨(some 10), none, [], false, .call 95 [(.t 9)]⟩,
  ⟨(some 11), none, [], false, .call 97 [(.t 8), (.t 10)]⟩,
  ⟨(some 4), none, [], false, .mv (.t 11)⟩]
def f92r1 : List I := [⟨(some 12), none, [], false, .mv (.t 0)⟩,
  ⟨(some 13), none, [], false, .mv (.t 0)⟩,
  ⟨(some 14), none, [], false, .nck (.t 13)⟩,
  ⟨(some 15), none, [], false, .fad 6 (.t 14)⟩,
  ⟨(some 16), none, [], false, .ld false 1 (.t 15)⟩,
  ⟨(some 17), none, [], false, .call 105 [(.t 12), (.t 16)]⟩]
def f92r2 : List I := [⟨(some 18), none, [], false, .mv (.t 0)⟩,
  ⟨(some 19), none, [], false, .mv (.t 4)⟩,
  ⟨(some 20), none, [], false, .mv (.t 1)⟩,
  ⟨(some 21), none, [], false, .call 91 [(.t 18), (.t 19), (.t 20)]⟩]
def f92r3 : List I := [⟨(some 22), none, [], false, .mv (.t 0)⟩,
  ⟨(some 23), none, [], false, .mv (.t 0)⟩,
  ⟨(some 24), none, [], false, .mv (.t 0)⟩,
  ⟨(some 25), none, [], false, .nck (.t 24)⟩,
  ⟨(some 26), none, [], false, .fad 4 (.t 25)⟩,
  ⟨(some 27), none, [], false, .fad 0 (.t 26)⟩,
  ⟨(some 28), none, [], false, .ld false 1 (.t 27)⟩,
  ⟨(some 29), none, [], false, .nck (.t 22)⟩,
  ⟨(some 30), none, [], false, .fad 0 (.t 29)⟩,
  ⟨(some 31), none, [], false, .fad 1 (.t 30)⟩,
  ⟨none, none, [], false, .st 1 (.t 31) (.c (.bool true))⟩,
  ⟨(some 32), none, [], false, .nck (.t 23)⟩,
  ⟨(some 33), none, [], false, .fad 0 (.t 32)⟩,
  ⟨(some 34), none, [], false, .fad 2 (.t 33)⟩,
  ⟨none, none, [], false, .st 1 (.t 34) (.t 28)⟩]
def f92 : Fn := ⟨[0, 1, 4], (.seq (.reg true f92r0) (.seq (.reg false f92r1) (.seq (.reg false f92r2) (.reg false f92r3)))), []⟩
/-! 93: (*stolon/memb.work).ask -/
def f93r0 : List I := [⟨(some 6), none, [], false, .mv (.t 1)⟩,
  ⟨(some 7), none, [], false, .len (.t 6)⟩,
  ⟨(some 8), none, [], false, .bin .eql .other (.t 7) (.c (.int .i64 0))⟩]
def f93r1 : List I := [⟨(some 9), none, [], false, .mv (.t 0)⟩,
  ⟨(some 10), none, [], false, .nck (.t 9)⟩,
  ⟨(some 11), none, [], false, .fad 0 (.t 10)⟩,
  ⟨(some 12), none, [], false, .fad 3 (.t 11)⟩,
  ⟨(some 13), none, [], false, .ld false 1 (.t 12)⟩,
  ⟨(some 14), none, [], false, .len (.t 13)⟩,
  ⟨(some 15), none, [], false, .mv (.c (.int .i64 0))⟩]
def f93r2 : List I := [⟨(some 16), none, [], false, .bin .lss .other (.t 15) (.t 14)⟩]
def f93r3 : List I := [⟨(some 17), none, [], false, .mv (.t 15)⟩,
  ⟨(some 18), none, [], false, .iad 2 none (.t 13) (.t 15)⟩,
  ⟨(some 19), none, [], false, .ld true 2 (.t 18)⟩,
  ⟨(some 5), none, [], false, .alloc [.int .u32 0, .int .i64 0]⟩,
  ⟨(some 4), none, [], false, .mv (.t 17)⟩,
  ⟨none, none, [], false, .st 2 (.t 5) (.t 19)⟩]
def f93r4 : List I := [⟨(some 20), none, [], false, .mv (.t 1)⟩,
  ⟨(some 21), none, [], false, .fad 0 (.t 5)⟩,
  ⟨(some 22), none, [], false, .ld false 1 (.t 21)⟩,
  ⟨(some 23), none, [], false, .call 106 [(.t 20), (.t 22)]⟩]
def f93r5 : List I := [⟨(some 24), none, [], false, .mv (.t 0)⟩,
  ⟨(some 25), none, [], false, .nck (.t 24)⟩,
  ⟨(some 26), none, [], false, .fad 0 (.t 25)⟩,
  ⟨(some 27), none, [], false, .fad 3 (.t 26)⟩,
  ⟨(some 28), none, [], false, .ld false 1 (.t 27)⟩,
  ⟨(some 29), none, [], false, .mv (.t 4)⟩,
  ⟨(some 30), none, [], false, .fad 1 (.t 5)⟩,
  ⟨(some 31), none, [], false, .ld false 1 (.t 30)⟩,
  ⟨(some 32), none, [], false, .mv (.t 0)⟩,
  ⟨(some 33), none, [], false, .nck (.t 32)⟩,
  ⟨(some 34), none, [], false, .fad 4 (.t 33)⟩,
  ⟨(some 35), none, [], false, .fad 1 (.t 34)⟩,
  ⟨(some 36), none, [], false, .ld false 1 (.t 35)⟩,
  ⟨(some 37), none, [], false, .mn (.t 31) [(.t 36)]⟩,
  ⟨(some 38), none, [], false, .iad 2 none (.t 28) (.t 29)⟩,
  ⟨(some 39), none, [], false, .fad 1 (.t 38)⟩,
  ⟨none, none, [], false, .st 1 (.t 39) (.t 37)⟩]
def f93r6 : List I := [⟨(some 40), none, [], false, .bin .add .other (.t 15) (.c (.int .i64 1))⟩,
  ⟨(some 15), none, [], false, .mv (.t 40)⟩]
def f93l0 : C := (.seq (.reg false f93r2) (.seq (.cond (.t 16) .skip (.exit 0)) (.seq (.block 1 (.seq (.reg false f93r3) (.seq (.reg false f93r4) (.cond (.t 23) (.reg true f93r5) .skip)))) (.reg false f93r6))))
def f93r7 : List I := [⟨(some 42), none, [], false, .mv (.t 0)⟩,
  ⟨(some 43), none, [], false, .nck (.t 42)⟩,
  ⟨(some 44), none, [], false, .fad 7 (.t 43)⟩,
  ⟨(some 45), none, [false], false, .ld false 1 (.t 44)⟩,
  ⟨(some 46), none, [], false, .mv (.t 0)⟩,
  ⟨(some 47), none, [], false, .nck (.t 46)⟩,
  ⟨(some 48), none, [], false, .fad 0 (.t 47)⟩,
  ⟨(some 49), none, [], false, .fad 0 (.t 48)⟩,
  ⟨(some 50), none, [false], false, .ld false 1 (.t 49)⟩,
  ⟨(some 51), none, [], false, .mv (.t 1)⟩,
  ⟨(some 52), none, [], false, .build [.int .u32 0, nilS] [(0, 1, (.t 50)), (1, 1, (.t 51))]⟩,
  ⟨(some 53), none, [], false, .bslice 2 1 [.int .u32 0, nilS] [(0, 2, (.t 52))]⟩,
  ⟨(some 54), none, [], false, .app 2 32 (.t 45) (.t 53)⟩,
  ⟨(some 41), none, [], false, .mv (.t 0)⟩,
  ⟨(some 55), none, [], false, .nck (.t 41)⟩,
  ⟨(some 56), none, [], false, .fad 7 (.t 55)⟩,
  ⟨none, none, [], false, .st 1 (.t 56) (.t 54)⟩]
def f93 : Fn := ⟨[0, 1, 4, 5, 8, 13, 14, 15, 16, 23], (.seq (.seq (.reg false f93r0) (.cond (.t 8) .ret .skip)) (.seq (.seq (.reg false f93r1) (.block 0 (.loop f93l0))) (.reg true f93r7))), []⟩
/-! 94: stolon/set.Inter -/
def f94r0 : List I := [⟨(some 4), none, [], false, .mv (.c (nilS))⟩]
def f94r1 : List I := [⟨(some 5), none, [], false, .mv (.t 0)⟩,
  ⟨(some 6), none, [], false, .mv (.t 1)⟩,
  ⟨(some 7), none, [], false, .call 107 [(.t 5), (.t 6), (.c (.fn 108 []))]⟩,
  ⟨(some 4), none, [], false, .mv (.t 7)⟩]
def f94 : Fn := ⟨[0, 1, 4], (.seq (.reg false f94r0) (.seq (.reg false f94r1) .ret)), [.tmp 4]⟩
/-! 95: (*stolon/memb.work).all -/
def f95r0 : List I := [⟨(some 2), none, [], false, .mv (.c (nilS))⟩]
def f95r1 : List I := [⟨(some 3), none, [], false, .mv (.t 0)⟩,
  ⟨(some 4), none, [], false, .call 109 [(.t 3), (.c (.fn 110 []))]⟩,
  ⟨(some 2), none, [], false, .mv (.t 4)⟩]
def f95 : Fn := ⟨[0, 2], (.seq (.reg false f95r0) (.seq (.reg false f95r1) .ret)), [.tmp 2]⟩
/-! 96: (*stolon/memb.work).y -/
def f96r0 : List I := [⟨(some 2), none, [], false, .mv (.c (nilS))⟩]
def f96r1 : List I := [⟨(some 3), none, [], false, .mv (.t 0)⟩,
  ⟨(some 4), none, [], false, .call 109 [(.t 3), (.c (.fn 111 []))]⟩,
  ⟨(some 2), none, [], false, .mv (.t 4)⟩]
def f96 : Fn := ⟨[0, 2], (.seq (.reg false f96r0) (.seq (.reg false f96r1) .ret)), [.tmp 2]⟩
/-! 97: stolon/set.Minus -/
def f97r0 : List I := [⟨(some 4), none, [], false, .mv (.c (nilS))⟩]
def f97r1 : List I := [⟨(some 5), none, [], false, .mv (.t 0)⟩,
  ⟨(some 6), none, [], false, .mv (.t 1)⟩,
  ⟨(some 7), none, [], false, .call 107 [(.t 5), (.t 6), (.c (.fn 112 []))]⟩,
  ⟨(some 4), none, [], false, .mv (.t 7)⟩]
def f97 : Fn := ⟨[0, 1, 4], (.seq (.reg false f97r0) (.seq (.reg false f97r1) .ret)), [.tmp 4]⟩
/-! 98: (*stolon/memb.work).x -/
def f98r0 : List I := [⟨(some 2), none, [], false, .mv (.c (nilS))⟩]
def f98r1 : List I := [⟨(some 3), none, [], false, .mv (.t 0)⟩,
  ⟨(some 4), none, [], false, .call 109 [(.t 3), (.c (.fn 113 []))]⟩,
  ⟨(some 2), none, [], false, .mv (.t 4)⟩]
def f98 : Fn := ⟨[0, 2], (.seq (.reg false f98r0) (.seq (.reg false f98r1) .ret)), [.tmp 2]⟩
/-! 99: slices.Compact[[]stolon/api.Addr,stolon/api.Addr] -/
def f99r0 : List I := [⟨(some 2), none, [], false, .mv (.c (nilS))⟩]
def f99r1 : List I := [⟨(some 6), none, [], false, .mv (.t 0)⟩,
  ⟨(some 7), none, [], false, .len (.t 6)⟩,
  ⟨(some 8), none, [], false, .bin .lss .other (.t 7) (.c (.int .i64 2))⟩]
def f99r2 : List I := [⟨(some 9), none, [], false, .mv (.t 0)⟩,
  ⟨(some 2), none, [], false, .mv (.t 9)⟩]
def f99r3 : List I := [⟨(some 3), none, [], false, .mv (.c (.int .i64 1))⟩]
def f99r4 : List I := [⟨(some 10), none, [], false, .mv (.t 3)⟩,
  ⟨(some 11), none, [], false, .mv (.t 0)⟩,
  ⟨(some 12), none, [], false, .len (.t 11)⟩,
  ⟨(some 13), none, [], false, .bin .lss .other (.t 10) (.t 12)⟩]
def f99r5 : List I := [⟨(some 16), none, [], false, .mv (.t 0)⟩,
  ⟨(some 17), none, [], false, .mv (.t 3)⟩,
  ⟨(some 18), none, [], false, .iad 1 none (.t 16) (.t 17)⟩,
  ⟨(some 19), none, [], false, .ld false 1 (.t 18)⟩,
  ⟨(some 20), none, [], false, .mv (.t 0)⟩,
  ⟨(some 21), none, [], false, .mv (.t 3)⟩,
  ⟨(some 22), none, [], false, .bin .sub .other (.t 21) (.c (.int .i64 1))⟩,
  ⟨(some 23), none, [], false, .iad 1 none (.t 20) (.t 22)⟩,
  ⟨(some 24), none, [], false, .ld false 1 (.t 23)⟩,
  ⟨(some 25), none, [], false, .bin .eql .other (.t 19) (.t 24)⟩]
def f99r6 : List I := [⟨(some 26), none, [], false, .mv (.t 0)⟩,
  ⟨(some 27), none, [], false, .mv (.t 3)⟩,
  ⟨(some 28), none, [], false, .slice 1 (.t 26) (some (.t 27)) none none⟩,
  ⟨(some 4), none, [], false, .mv (.t 28)⟩]
def f99r7 : List I := [⟨(some 5), none, [], false, .mv (.c (.int .i64 1))⟩]
def f99r8 : List I := [⟨(some 29), none, [], false, .mv (.t 5)⟩,
  ⟨(some 30), none, [], false, .mv (.t 4)⟩,
  ⟨(some 31), none, [], false, .len (.t 30)⟩,
  ⟨(some 32), none, [], false, .bin .lss .other (.t 29) (.t 31)⟩]
def f99r9 : List I := [⟨(some 35), none, [], false, .mv (.t 4)⟩,
  ⟨(some 36), none, [], false, .mv (.t 5)⟩,
  ⟨(some 37), none, [], false, .iad 1 none (.t 35) (.t 36)⟩,
  ⟨(some 38), none, [], false, .ld false 1 (.t 37)⟩,
  ⟨(some 39), none, [], false, .mv (.t 4)⟩,
  ⟨(some 40), none, [], false, .mv (.t 5)⟩,
  ⟨(some 41), none, [], false, .bin .sub .other (.t 40) (.c (.int .i64 1))⟩,
  ⟨(some 42), none, [], false, .iad 1 none (.t 39) (.t 41)⟩,
  ⟨(some 43), none, [], false, .ld false 1 (.t 42)⟩,
  ⟨(some 44), none, [], false, .bin .neq .other (.t 38) (.t 43)⟩]
def f99r10 : List I := [⟨(some 45), none, [], false, .mv (.t 0)⟩,
  ⟨(some 46), none, [], false, .mv (.t 3)⟩,
  ⟨(some 47), none, [], false, .mv (.t 4)⟩,
  ⟨(some 48), none, [], false, .mv (.t 5)⟩,
  ⟨(some 49), none, [], false, .iad 1 none (.t 47) (.t 48)⟩,
  ⟨(some 50), none, [], false, .ld false 1 (.t 49)⟩,
  ⟨(some 51), none, [], false, .iad 1 none (.t 45) (.t 46)⟩,
  ⟨none, none, [], false, .st 1 (.t 51) (.t 50)⟩]
def f99r11 : List I := [⟨(some 52), none, [], false, .mv (.t 3)⟩,
  ⟨(some 53), none, [], false, .bin .add .other (.t 52) (.c (.int .i64 1))⟩,
  ⟨(some 3), none, [], false, .mv (.t 53)⟩]
def f99r12 : List I := [⟨(some 33), none, [], false, .mv (.t 5)⟩,
  ⟨(some 34), none, [], false, .bin .add .other (.t 33) (.c (.int .i64 1))⟩,
  ⟨(some 5), none, [], false, .mv (.t 34)⟩]
def f99l0 : C := (.seq (.seq (.reg false f99r8) (.cond (.t 32) .skip (.exit 2))) (.seq (.block 3 (.seq (.reg true f99r9) (.cond (.t 44) (.seq (.reg false f99r10) (.reg false f99r11)) .skip))) (.reg false f99r12)))
def f99r13 : List I := [⟨(some 54), none, [], false, .mv (.t 0)⟩,
  ⟨(some 55), none, [], false, .mv (.t 3)⟩,
  ⟨(some 56), none, [], false, .slice 1 (.t 54) (some (.t 55)) none none⟩,
  ⟨none, none, [], false, .clear 1 [.int .u32 0] (.t 56)⟩]
def f99r14 : List I := [⟨(some 57), none, [], false, .mv (.t 0)⟩,
  ⟨(some 58), none, [], false, .mv (.t 3)⟩,
  ⟨(some 59), none, [], false, .slice 1 (.t 57) none (some (.t 58)) none⟩,
  ⟨(some 2), none, [], false, .mv (.t 59)⟩]
def f99r15 : List I := [⟨(some 14), none, [], false, .mv (.t 3)⟩,
  ⟨(some 15), none, [], false, .bin .add .other (.t 14) (.c (.int .i64 1))⟩,
  ⟨(some 3), none, [], false, .mv (.t 15)⟩]
def f99l1 : C := (.seq (.seq (.reg false f99r4) (.cond (.t 13) .skip (.exit 0))) (.seq (.block 1 (.seq (.reg true f99r5) (.cond (.t 25) (.seq (.reg false f99r6) (.seq (.seq (.reg false f99r7) (.block 2 (.loop f99l0))) (.seq (.reg false f99r13) (.seq (.reg false f99r14) .ret)))) .skip))) (.reg false f99r15)))
def f99r16 : List I := [⟨(some 60), none, [], false, .mv (.t 0)⟩,
  ⟨(some 2), none, [], false, .mv (.t 60)⟩]
def f99 : Fn := ⟨[0, 2, 3, 4, 5, 8, 13, 25, 32, 44], (.seq (.reg false f99r0) (.seq (.seq (.reg false f99r1) (.cond (.t 8) (.seq (.reg false f99r2) .ret) .skip)) (.seq (.seq (.reg false f99r3) (.block 0 (.loop f99l1))) (.seq (.reg false f99r16) .ret)))), [.tmp 2]⟩
/-! 100: slices.Sorted[stolon/api.Addr] -/
def f100r0 : List I := [⟨(some 2), none, [], false, .mv (.c (nilS))⟩]
def f100r1 : List I := [⟨(some 4), none, [], false, .mv (.t 0)⟩,
  ⟨(some 5), none, [], false, .call 114 [(.t 4)]⟩,
  ⟨(some 3), none, [], false, .mv (.t 5)⟩]
def f100r2 : List I := [⟨(some 6), none, [], false, .mv (.t 3)⟩,
  ⟨(some 7), none, [], false, .call 115 [(.t 6)]⟩]
def f100r3 : List I := [⟨(some 8), none, [], false, .mv (.t 3)⟩,
  ⟨(some 2), none, [], false, .mv (.t 8)⟩]
def f100 : Fn := ⟨[0, 2, 3], (.seq (.reg false f100r0) (.seq (.reg false f100r1) (.seq (.reg false f100r2) (.seq (.reg false f100r3) .ret)))), [.tmp 2]⟩
/-! 101: slices.Values[[]stolon/api.Addr,stolon/api.Addr] -/
def f101r0 : List I := [⟨(some 1), none, [], false, .box (.t 0)⟩,
  ⟨(some 2), none, [], false, .mv (.c (.nilf))⟩]
def f101r1 : List I := [⟨(some 3), none, [], false, .mkf 116 [] [(.t 1)]⟩,
  ⟨(some 2), none, [], false, .mv (.t 3)⟩]
def f101 : Fn := ⟨[0, 1, 2], (.seq (.reg false f101r0) (.seq (.reg false f101r1) .ret)), [.tmp 2]⟩
/-! 102: slices.rotateLeft[stolon/api.Place] -/
def f102r0 : List I := [⟨(some 4), none, [], false, .mv (.t 0)⟩,
  ⟨(some 5), none, [], false, .mv (.t 1)⟩,
  ⟨(some 6), none, [], false, .slice 7 (.t 4) none (some (.t 5)) none⟩,
  ⟨(some 7), none, [], false, .call 117 [(.t 6)]⟩]
def f102r1 : List I := [⟨(some 8), none, [], false, .mv (.t 0)⟩,
  ⟨(some 9), none, [], false, .mv (.t 1)⟩,
  ⟨(some 10), none, [], false, .slice 7 (.t 8) (some (.t 9)) none none⟩,
  ⟨(some 11), none, [], false, .call 117 [(.t 10)]⟩]
def f102r2 : List I := [⟨(some 12), none, [], false, .mv (.t 0)⟩,
  ⟨(some 13), none, [], false, .call 117 [(.t 12)]⟩]
def f102 : Fn := ⟨[0, 1], (.seq (.reg false f102r0) (.seq (.reg false f102r1) (.reg false f102r2))), []⟩
/-! 103: stolon/stolonref08.left -/
def f103r0 : List I := [⟨(some 2), none, [], false, .box (.t 0)⟩,
  ⟨(some 4), none, [], false, .mv (.c (.int .i64 0))⟩]
def f103r1 : List I := [⟨(some 5), none, [], false, .mv (.c (.int .i64 0))⟩]
def f103r2 : List I := [⟨(some 6), none, [], false, .mv (.t 5)⟩,
  ⟨(some 7), none, [], false, .fad 3 (.t 2)⟩,
  ⟨(some 8), none, [], false, .ld false 1 (.t 7)⟩,
  ⟨(some 9), none, [], false, .len (.t 8)⟩,
  ⟨(some 10), none, [], false, .bin .lss .other (.t 6) (.t 9)⟩]
def f103r3 : List I := [⟨(some 13), none, [], false, .fad 3 (.t 2)⟩,
  ⟨(some 14), none, [], false, .ld false 1 (.t 13)⟩,
  ⟨(some 15), none, [], false, .mv (.t 5)⟩,
  ⟨(some 16), none, [], false, .iad 2 none (.t 14) (.t 15)⟩,
  ⟨(some 17), none, [], false, .fad 0 (.t 16)⟩,
  ⟨(some 18), none, [], false, .ld false 1 (.t 17)⟩,
  ⟨(some 19), none, [], false, .mv (.t 1)⟩,
  ⟨(some 20), none, [], false, .bin .eql .other (.t 18) (.t 19)⟩]
def f103r4 : List I := [⟨(some 21), none, [], false, .fad 3 (.t 2)⟩,
  ⟨(some 22), none, [], false, .ld false 1 (.t 21)⟩,
  ⟨(some 23), none, [], false, .mv (.t 5)⟩,
  ⟨(some 24), none, [], false, .iad 2 none (.t 22) (.t 23)⟩,
  ⟨(some 25), none, [], false, .fad 1 (.t 24)⟩,
  ⟨(some 26), none, [], false, .ld false 1 (.t 25)⟩,
  ⟨(some 4), none, [], false, .mv (.t 26)⟩]
def f103r5 : List I := [⟨(some 11), none, [], false, .mv (.t 5)⟩,
  ⟨(some 12), none, [], false, .bin .add .other (.t 11) (.c (.int .i64 1))⟩,
  ⟨(some 5), none, [], false, .mv (.t 12)⟩]
def f103l0 : C := (.seq (.seq (.reg false f103r2) (.cond (.t 10) .skip (.exit 0))) (.seq (.block 1 (.seq (.reg false f103r3) (.cond (.t 20) (.seq (.reg false f103r4) .ret) .skip))) (.reg false f103r5)))
def f103r6 : List I := [⟨(some 4), none, [], false, .mv (.c (.int .i64 (-1)))⟩]
def f103 : Fn := ⟨[0, 1, 2, 4, 5, 10, 20], (.seq (.reg false f103r0) (.seq (.seq (.reg false f103r1) (.block 0 (.loop f103l0))) (.seq (.reg false f103r6) .ret))), [.tmp 4]⟩
/-! 104: slices.Insert[[]stolon/api.Held,stolon/api.Held] -/
def f104r0 : List I := [⟨(some 6), none, [], false, .mv (.c (nilS))⟩]
def f104r1 : List I := [⟨(some 10), none, [], false, .mv (.t 0)⟩,
  ⟨(some 11), none, [], false, .mv (.t 1)⟩,
  ⟨(some 12), none, [], false, .slice 2 (.t 10) (some (.t 11)) none none⟩]
def f104r2 : List I := [⟨(some 13), none, [], false, .mv (.t 2)⟩,
  ⟨(some 14), none, [], false, .len (.t 13)⟩,
  ⟨(some 7), none, [], false, .mv (.t 14)⟩]
def f104r3 : List I := [⟨(some 15), none, [], false, .mv (.t 7)⟩,
  ⟨(some 16), none, [], false, .bin .eql .other (.t 15) (.c (.int .i64 0))⟩]
def f104r4 : List I := [⟨(some 17), none, [], false, .mv (.t 0)⟩,
  ⟨(some 6), none, [], false, .mv (.t 17)⟩]
def f104r5 : List I := [⟨(some 18), none, [], false, .mv (.t 0)⟩,
  ⟨(some 19), none, [], false, .len (.t 18)⟩,
  ⟨(some 8), none, [], false, .mv (.t 19)⟩]
def f104r6 : List I := [⟨(some 20), none, [], false, .mv (.t 1)⟩,
  ⟨(some 21), none, [], false, .mv (.t 8)⟩,
  ⟨(some 22), none, [], false, .bin .eql .other (.t 20) (.t 21)⟩]
def f104r7 : List I := [⟨(some 23), none, [], false, .mv (.t 0)⟩,
  ⟨(some 24), none, [], false, .mv (.t 2)⟩,
  ⟨(some 25), none, [], false, .app 2 16 (.t 23) (.t 24)⟩,
  ⟨(some 6), none, [], false, .mv (.t 25)⟩]
def f104r8 : List I := [⟨(some 26), none, [], false, .mv (.t 8)⟩,
  ⟨(some 27), none, [], false, .mv (.t 7)⟩,
  ⟨(some 28), none, [], false, .bin .add .other (.t 26) (.t 27)⟩,
  ⟨(some 29), none, [], false, .mv (.t 0)⟩,
  ⟨(some 30), none, [], false, .bad⟩,
  ⟨(some 31), none, [], false, .bin .gtr .other (.t 28) (.t 30)⟩]
def f104r9 : List I := [⟨(some 32), none, [], false, .mv (.t 0)⟩,
  ⟨(some 33), none, [], false, .mv (.t 1)⟩,
  ⟨(some 34), none, [], false, .slice 2 (.t 32) none (some (.t 33)) none⟩,
  ⟨(some 35), none, [], false, .mv (.t 8)⟩,
  ⟨(some 36), none, [], false, .mv (.t 7)⟩,
  ⟨(some 37), none, [], false, .bin .add .other (.t 35) (.t 36)⟩,
  ⟨(some 38), none, [], false, .mv (.t 1)⟩,
  ⟨(some 39), none, [], false, .bin .sub .other (.t 37) (.t 38)⟩,
  ⟨(some 40), none, [], false, .bad⟩,
  ⟨(some 9), none, [], false, .mv (.t 40)⟩]
def f104r10 : List I := [⟨(some 41), none, [], false, .mv (.t 9)⟩,
  ⟨(some 42), none, [], false, .mv (.t 1)⟩,
  ⟨(some 43), none, [], false, .slice 2 (.t 41) (some (.t 42)) none none⟩,
  ⟨(some 44), none, [], false, .mv (.t 2)⟩,
  ⟨(some 45), none, [], false, .copy 2 (.t 43) (.t 44)⟩]
def f104r11 : List I := [⟨(some 46), none, [], false, .mv (.t 9)⟩,
  ⟨(some 47), none, [], false, .mv (.t 1)⟩,
  ⟨(some 48), none, [], false, .mv (.t 7)⟩,
  ⟨(some 49), none, [], false, .bin .add .other (.t 47) (.t 48)⟩,
  ⟨(some 50), none, [], false, .slice 2 (.t 46) (some (.t 49)) none none⟩,
  ⟨(some 51), none, [], false, .mv (.t 0)⟩,
  ⟨(some 52), none, [], false, .mv (.t 1)⟩,
  ⟨(some 53), none, [], false, .slice 2 (.t 51) (some (.t 52)) none none⟩,
  ⟨(some 54), none, [], false, .copy 2 (.t 50) (.t 53)⟩]
def f104r12 : List I := [⟨(some 55), none, [], false, .mv (.t 9)⟩,
  ⟨(some 6), none, [], false, .mv (.t 55)⟩]
def f104r13 : List I := [⟨(some 56), none, [], false, .mv (.t 0)⟩,
  ⟨(some 57), none, [], false, .mv (.t 8)⟩,
  ⟨(some 58), none, [], false, .mv (.t 7)⟩,
  ⟨(some 59), none, [], false, .bin .add .other (.t 57) (.t 58)⟩,
  ⟨(some 60), none, [], false, .slice 2 (.t 56) none (some (.t 59)) none⟩,
  ⟨(some 0), none, [], false, .mv (.t 60)⟩]
def f104r14 : List I := [⟨(some 61), none, [], false, .mv (.t 2)⟩,
  ⟨(some 62), none, [], false, .mv (.t 0)⟩,
  ⟨(some 63), none, [], false, .mv (.t 1)⟩,
  ⟨(some 64), none, [], false, .mv (.t 7)⟩,
  ⟨(some 65), none, [], false, .bin .add .other (.t 63) (.t 64)⟩,
  ⟨(some 66), none, [], false, .slice 2 (.t 62) (some (.t 65)) none none⟩,
  ⟨(some 67), none, [], false, .call 118 [(.t 61), (.t 66)]⟩,
  ⟨(some 68), none, [], false, .un .not (.t 67)⟩]
def f104r15 : List I := [⟨(some 69), none, [], false, .mv (.t 0)⟩,
  ⟨(some 70), none, [], false, .mv (.t 1)⟩,
  ⟨(some 71), none, [], false, .mv (.t 7)⟩,
  ⟨(some 72), none, [], false, .bin .add .other (.t 70) (.t 71)⟩,
  ⟨(some 73), none, [], false, .slice 2 (.t 69) (some (.t 72)) none none⟩,
  ⟨(some 74), none, [], false, .mv (.t 0)⟩,
  ⟨(some 75), none, [], false, .mv (.t 1)⟩,
  ⟨(some 76), none, [], false, .slice 2 (.t 74) (some (.t 75)) none none⟩,
  ⟨(some 77), none, [], false, .copy 2 (.t 73) (.t 76)⟩]
def f104r16 : List I := [⟨(some 78), none, [], false, .mv (.t 0)⟩,
  ⟨(some 79), none, [], false, .mv (.t 1)⟩,
  ⟨(some 80), none, [], false, .slice 2 (.t 78) (some (.t 79)) none none⟩,
  ⟨(some 81), none, [], false, .mv (.t 2)⟩,
  ⟨(some 82), none, [], false, .copy 2 (.t 80) (.t 81)⟩]
def f104r17 : List I := [⟨(some 83), none, [], false, .mv (.t 0)⟩,
  ⟨(some 6), none, [], false, .mv (.t 83)⟩]
def f104r18 : List I := [⟨(some 84), none, [], false, .mv (.t 0)⟩,
  ⟨(some 85), none, [], false, .mv (.t 8)⟩,
  ⟨(some 86), none, [], false, .slice 2 (.t 84) (some (.t 85)) none none⟩,
  ⟨(some 87), none, [], false, .mv (.t 2)⟩,
  ⟨(some 88), none, [], false, .copy 2 (.t 86) (.t 87)⟩]
def f104r19 : List I := [⟨(some 89), none, [], false, .mv (.t 0)⟩,
  ⟨(some 90), none, [], false, .mv (.t 1)⟩,
  ⟨(some 91), none, [], false, .slice 2 (.t 89) (some (.t 90)) none none⟩,
  ⟨(some 92), none, [], false, .mv (.t 7)⟩,
  ⟨(some 93), none, [], false, .call 119 [(.t 91), (.t 92)]⟩]
def f104r20 : List I := [⟨(some 94), none, [], false, .mv (.t 0)⟩,
  ⟨(some 6), none, [], false, .mv (.t 94)⟩]
def f104 : Fn := ⟨[0, 1, 2, 6, 7, 8, 9, 16, 22, 31, 68], (.seq (.reg false f104r0) (.seq (.reg false f104r1) (.seq (.reg false f104r2) (.seq (.seq (.reg false f104r3) (.cond (.t 16) (.seq (.reg false f104r4) .ret) .skip)) (.seq (.reg false f104r5) (.seq (.seq (.reg false f104r6) (.cond (.t 22) (.seq (.reg false f104r7) .ret) .skip)) (.seq (.seq (.reg false f104r8) (.cond (.t 31) (.seq (.reg false f104r9) (.seq (.reg false f104r10) (.seq (.reg true f104r11) (.seq (.reg false f104r12) .ret)))) .skip)) (.seq (.reg false f104r13) (.seq (.seq (.reg false f104r14) (.cond (.t 68) (.seq (.reg true f104r15) (.seq (.reg false f104r16) (.seq (.reg false f104r17) .ret))) .skip)) (.seq (.reg false f104r18) (.seq (.reg false f104r19) (.seq (.reg false f104r20) .ret)))))))))))), [.tmp 6]⟩
/-! 105: (*stolon/memb.work).only -/
def f105r0 : List I := [⟨(some 3), none, [], false, .box (.t 1)⟩]
def f105r1 : List I := [⟨(some 4), none, [], false, .mv (.t 0)⟩,
  ⟨(some 5), none, [], false, .mv (.t 0)⟩,
  ⟨(some 6), none, [], false, .nck (.t 5)⟩,
  ⟨(some 7), none, [], false, .fad 0 (.t 6)⟩,
  ⟨(some 8), none, [], false, .fad 3 (.t 7)⟩,
  ⟨(some 9), none, [], false, .ld false 1 (.t 8)⟩,
  ⟨(some 10), none, [], false, .mkf 121 [] [(.t 3)]⟩,
  ⟨(some 11), none, [], false, .call 120 [(.t 9), (.t 10)]⟩,
  ⟨(some 12), none, [], false, .nck (.t 4)⟩,
  ⟨(some 13), none, [], false, .fad 0 (.t 12)⟩,
  ⟨(some 14), none, [], false, .fad 3 (.t 13)⟩,
  ⟨none, none, [], false, .st 1 (.t 14) (.t 11)⟩]
def f105 : Fn := ⟨[0, 1, 3], (.seq (.reg false f105r0) (.reg false f105r1)), []⟩
/-! 106: stolon/set.Has -/
def f106r0 : List I := [⟨(some 4), none, [], false, .mv (.c (.bool false))⟩]
def f106r1 : List I := [⟨(some 8), none, [], false, .mv (.t 0)⟩,
  ⟨(some 9), none, [], false, .mv (.t 1)⟩,
  ⟨(some 10), none, [], false, .call 122 [(.t 8), (.t 9)]⟩,
  ⟨(some 7), none, [], false, .mv (.t 10)⟩,
  ⟨(some 11), none, [], false, .ext 0 (.t 7)⟩,
  ⟨(some 12), none, [], false, .ext 1 (.t 7)⟩,
  ⟨(some 5), none, [], false, .mv (.t 11)⟩,
  ⟨(some 6), none, [], false, .mv (.t 12)⟩]
def f106r2 : List I := [⟨(some 13), none, [], false, .mv (.t 6)⟩,
  ⟨(some 4), none, [], false, .mv (.t 13)⟩]
def f106 : Fn := ⟨[0, 1, 4, 6], (.seq (.reg false f106r0) (.seq (.reg false f106r1) (.seq (.reg false f106r2) .ret))), [.tmp 4]⟩
/-! 107: stolon/set.those -/
def f107r0 : List I := [⟨(some 5), none, [], false, .box (.t 2)⟩,
  ⟨(some 6), none, [], false, .mv (.c (nilS))⟩]
def f107r1 : List I := [⟨(some 7), none, [], false, .alloc [nilS]⟩]
def f107r2 : List I := [⟨(some 10), none, [], false, .mv (.t 0)⟩,
  ⟨(some 11), none, [], false, .mv (.t 1)⟩,
  ⟨(some 12), none, [], false, .call 123 [(.t 10), (.t 11)]⟩]
def f107r3 : List I := [⟨(some 8), none, [], false, .mv (.t 13)⟩]
def f107r4 : List I := [⟨(some 9), none, [], false, .alloc [.bool false, .bool false]⟩,
  ⟨none, none, [], false, .st 2 (.t 9) (.t 14)⟩]
def f107r5 : List I := [⟨(some 15), none, [], false, .ld false 1 (.t 5)⟩,
  ⟨(some 16), none, [], false, .ld true 2 (.t 9)⟩,
  ⟨(some 17), none, [], false, .ccall (.t 15) [(.t 16)]⟩]
def f107r6 : List I := [⟨(some 18), none, [], false, .ld false 1 (.t 7)⟩,
  ⟨(some 19), none, [], false, .mv (.t 8)⟩,
  ⟨(some 20), none, [], false, .bslice 1 1 [.int .u32 0] [(0, 1, (.t 19))]⟩,
  ⟨(some 21), none, [], false, .app 1 4 (.t 18) (.t 20)⟩,
  ⟨none, none, [], false, .st 1 (.t 7) (.t 21)⟩]
def f107r7 : List I := [⟨(some 22), none, [], false, .ld false 1 (.t 7)⟩,
  ⟨(some 6), none, [], false, .mv (.t 22)⟩]
def f107 : Fn := ⟨[0, 1, 2, 5, 6, 7, 8, 9, 12, 13, 14, 17], (.seq (.reg false f107r0) (.seq (.reg false f107r1) (.seq (.seq (.reg false f107r2) (.block 0 (.range (.t 12) [13, 14] (.seq (.reg false f107r3) (.reg false f107r4)) (.block 1 (.seq (.reg false f107r5) (.cond (.t 17) (.reg false f107r6) .skip)))))) (.seq (.reg false f107r7) .ret)))), [.tmp 6]⟩
/-! 108: stolon/set.Inter$1 -/
def f108r0 : List I := [⟨(some 1), none, [], false, .box (.t 0)⟩,
  ⟨(some 2), none, [], false, .mv (.c (.bool false))⟩]
def f108r1 : List I := [⟨(some 3), none, [], false, .fad 0 (.t 1)⟩,
  ⟨(some 4), none, [], false, .ld false 1 (.t 3)⟩,
  ⟨(some 5), none, [], false, .mv (.t 4)⟩,
  ⟨(some 6), (some (5, true)), [], false, .fad 1 (.t 1)⟩,
  ⟨(some 7), (some (5, true)), [], false, .ld false 1 (.t 6)⟩,
  ⟨(some 8), none, [], false, .pick (.t 5) (.t 7) (.c (.bool false))⟩,
  ⟨(some 2), none, [], false, .mv (.t 8)⟩]
def f108 : Fn := ⟨[0, 1, 2], (.seq (.reg false f108r0) (.seq (.reg false f108r1) .ret)), [.tmp 2]⟩
/-! 109: (*stolon/memb.work).those -/
def f109r0 : List I := [⟨(some 4), none, [], false, .mv (.c (nilS))⟩]
def f109r1 : List I := [⟨(some 5), none, [], false, .mv (.c (nilS))⟩]
def f109r2 : List I := [⟨(some 8), none, [], false, .mv (.t 0)⟩,
  ⟨(some 9), none, [], false, .nck (.t 8)⟩,
  ⟨(some 10), none, [], false, .fad 0 (.t 9)⟩,
  ⟨(some 11), none, [], false, .fad 3 (.t 10)⟩,
  ⟨(some 12), none, [], false, .ld false 1 (.t 11)⟩,
  ⟨(some 13), none, [], false, .len (.t 12)⟩,
  ⟨(some 14), none, [], false, .mv (.c (.int .i64 0))⟩]
def f109r3 : List I := [⟨(some 15), none, [], false, .bin .lss .other (.t 14) (.t 13)⟩]
def f109r4 : List I := [⟨(some 16), none, [], false, .iad 2 none (.t 12) (.t 14)⟩,
  ⟨(some 17), none, [], false, .ld true 2 (.t 16)⟩,
  ⟨(some 7), none, [], false, .alloc [.int .u32 0, .int .i64 0]⟩,
  ⟨none, none, [], false, .st 2 (.t 7) (.t 17)⟩]
def f109r5 : List I := [⟨(some 18), none, [], false, .mv (.t 1)⟩,
  ⟨(some 19), none, [], false, .fad 1 (.t 7)⟩,
  ⟨(some 20), none, [], false, .ld false 1 (.t 19)⟩,
  ⟨(some 21), none, [], false, .ccall (.t 18) [(.t 20)]⟩]
def f109r6 : List I := [⟨(some 22), none, [], false, .mv (.t 5)⟩,
  ⟨(some 23), none, [], false, .fad 0 (.t 7)⟩,
  ⟨(some 24), none, [], false, .ld false 1 (.t 23)⟩,
  ⟨(some 25), none, [], false, .bslice 1 1 [.int .u32 0] [(0, 1, (.t 24))]⟩,
  ⟨(some 26), none, [], false, .app 1 4 (.t 22) (.t 25)⟩,
  ⟨(some 5), none, [], false, .mv (.t 26)⟩]
def f109r7 : List I := [⟨(some 27), none, [], false, .bin .add .other (.t 14) (.c (.int .i64 1))⟩,
  ⟨(some 14), none, [], false, .mv (.t 27)⟩]
def f109l0 : C := (.seq (.reg false f109r3) (.seq (.cond (.t 15) .skip (.exit 0)) (.seq (.block 1 (.seq (.reg false f109r4) (.seq (.reg false f109r5) (.cond (.t 21) (.reg false f109r6) .skip)))) (.reg false f109r7))))
def f109r8 : List I := [⟨(some 28), none, [], false, .mv (.t 5)⟩,
  ⟨(some 4), none, [], false, .mv (.t 28)⟩]
def f109 : Fn := ⟨[0, 1, 4, 5, 7, 12, 13, 14, 15, 21], (.seq (.reg false f109r0) (.seq (.reg false f109r1) (.seq (.seq (.reg false f109r2) (.block 0 (.loop f109l0))) (.seq (.reg false f109r8) .ret)))), [.tmp 4]⟩
/-! 110: (*stolon/memb.work).all$1 -/
def f110r0 : List I := [⟨(some 2), none, [], false, .mv (.c (.bool false))⟩]
def f110r1 : List I := [⟨(some 2), none, [], false, .mv (.c (.bool true))⟩]
def f110 : Fn := ⟨[2], (.seq (.reg false f110r0) (.seq (.reg false f110r1) .ret)), [.tmp 2]⟩
/-! 111: (*stolon/memb.work).y$1 -/
def f111r0 : List I := [⟨(some 2), none, [], false, .mv (.c (.bool false))⟩]
def f111r1 : List I := [⟨(some 3), none, [], false, .mv (.t 0)⟩,
  ⟨(some 4), none, [], false, .bin .eql .other (.t 3) (.c (.int .i64 0))⟩,
  ⟨(some 2), none, [], false, .mv (.t 4)⟩]
def f111 : Fn := ⟨[0, 2], (.seq (.reg false f111r0) (.seq (.reg false f111r1) .ret)), [.tmp 2]⟩
/-! 112: stolon/set.Minus$1 -/
def f112r0 : List I := [⟨(some 1), none, [], false, .box (.t 0)⟩,
  ⟨(some 2), none, [], false, .mv (.c (.bool false))⟩]
def f112r1 : List I := [⟨(some 3), none, [], false, .fad 0 (.t 1)⟩,
  ⟨(some 4), none, [], false, .ld false 1 (.t 3)⟩,
  ⟨(some 5), none, [], false, .mv (.t 4)⟩,
  ⟨(some 6), (some (5, true)), [], false, .fad 1 (.t 1)⟩,
  ⟨(some 7), (some (5, true)), [], false, .ld false 1 (.t 6)⟩,
  ⟨(some 8), (some (5, true)), [], false, .un .not (.t 7)⟩,
  ⟨(some 9), none, [], false, .pick (.t 5) (.t 8) (.c (.bool false))⟩,
  ⟨(some 2), none, [], false, .mv (.t 9)⟩]
def f112 : Fn := ⟨[0, 1, 2], (.seq (.reg false f112r0) (.seq (.reg false f112r1) .ret)), [.tmp 2]⟩
/-! 113: (*stolon/memb.work).x$1 -/
def f113r0 : List I := [⟨(some 2), none, [], false, .mv (.c (.bool false))⟩]
def f113r1 : List I := [⟨(some 3), none, [], false, .mv (.t 0)⟩,
  ⟨(some 4), none, [], false, .bin .gtr .other (.t 3) (.c (.int .i64 0))⟩,
  ⟨(some 2), none, [], false, .mv (.t 4)⟩]
def f113 : Fn := ⟨[0, 2], (.seq (.reg false f113r0) (.seq (.reg false f113r1) .ret)), [.tmp 2]⟩
/-! 114: slices.Collect[stolon/api.Addr] -/
def f114r0 : List I := [⟨(some 2), none, [], false, .mv (.c (nilS))⟩]
def f114r1 : List I := [⟨(some 3), none, [], false, .mv (.t 0)⟩,
  ⟨(some 4), none, [], false, .call 124 [(.c (nilS)), (.t 3)]⟩,
  ⟨(some 2), none, [], false, .mv (.t 4)⟩]
def f114 : Fn := ⟨[0, 2], (.seq (.reg false f114r0) (.seq (.reg false f114r1) .ret)), [.tmp 2]⟩
/-! 115: slices.Sort[[]stolon/api.Addr,stolon/api.Addr] -/
def f115r0 : List I := [⟨(some 3), none, [], false, .mv (.t 0)⟩,
  ⟨(some 4), none, [], false, .len (.t 3)⟩,
  ⟨(some 2), none, [], false, .mv (.t 4)⟩]
def f115r1 : List I := [⟨(some 5), none, [], false, .mv (.t 0)⟩,
  ⟨(some 6), none, [], false, .mv (.t 2)⟩,
  ⟨(some 7), none, [], false, .mv (.t 2)⟩,
  ⟨(some 8), none, [], false, .conv .u64 (.t 7)⟩,
  ⟨(some 9), none, [], false, .call 126 [(.t 8)]⟩,
  ⟨(some 10), none, [], false, .call 125 [(.t 5), (.c (.int .i64 0)), (.t 6), (.t 9)]⟩]
def f115 : Fn := ⟨[0, 2], (.seq (.reg false f115r0) (.reg false f115r1)), []⟩
/-! 116: slices.Values[[]stolon/api.Addr,stolon/api.Addr]$1 -/
def f116r0 : List I := [⟨(some 5), none, [], false, .ld false 1 (.t 1)⟩,
  ⟨(some 6), none, [], false, .len (.t 5)⟩,
  ⟨(some 7), none, [], false, .mv (.c (.int .i64 0))⟩]
def f116r1 : List I := [⟨(some 8), none, [], false, .bin .lss .other (.t 7) (.t 6)⟩]
def f116r2 : List I := [⟨(some 9), none, [], false, .iad 1 none (.t 5) (.t 7)⟩,
  ⟨(some 10), none, [], false, .ld false 1 (.t 9)⟩,
  ⟨(some 4), none, [], false, .mv (.t 10)⟩]
def f116r3 : List I := [⟨(some 11), none, [], false, .mv (.t 0)⟩,
  ⟨(some 12), none, [], false, .mv (.t 4)⟩,
  ⟨(some 13), none, [], false, .ccall (.t 11) [(.t 12)]⟩,
  ⟨(some 14), none, [], false, .un .not (.t 13)⟩]
def f116r4 : List I := [⟨(some 15), none, [], false, .bin .add .other (.t 7) (.c (.int .i64 1))⟩,
  ⟨(some 7), none, [], false, .mv (.t 15)⟩]
def f116l0 : C := (.seq (.reg false f116r1) (.seq (.cond (.t 8) .skip (.exit 0)) (.seq (.block 1 (.seq (.reg false f116r2) (.seq (.reg false f116r3) (.cond (.t 14) .ret .skip)))) (.reg false f116r4))))
def f116 : Fn := ⟨[0, 1, 4, 5, 6, 7, 8, 14], (.seq (.reg false f116r0) (.block 0 (.loop f116l0))), []⟩
/-! 117: slices.Reverse[[]stolon/api.Place,stolon/api.Place] -/
def f117r0 : List I := [⟨(some 4), none, [], false, .mv (.t 0)⟩,
  ⟨(some 5), none, [], false, .len (.t 4)⟩,
  ⟨(some 6), none, [], false, .bin .sub .other (.t 5) (.c (.int .i64 1))⟩,
  ⟨(some 2), none, [], false, .mv (.c (.int .i64 0))⟩,
  ⟨(some 3), none, [], false, .mv (.t 6)⟩]
def f117r1 : List I := [⟨(some 7), none, [], false, .mv (.t 2)⟩,
  ⟨(some 8), none, [], false, .mv (.t 3)⟩,
  ⟨(some 9), none, [], false, .bin .lss .other (.t 7) (.t 8)⟩]
def f117r2 : List I := [⟨(some 14), none, [], false, .mv (.t 0)⟩,
  ⟨(some 15), none, [], false, .mv (.t 2)⟩,
  ⟨(some 18), none, [], false, .mv (.t 0)⟩,
  ⟨(some 19), none, [], false, .mv (.t 3)⟩,
  ⟨(some 20), none, [], false, .iad 7 none (.t 18) (.t 19)⟩,
  ⟨(some 21), none, [], false, .ld true 7 (.t 20)⟩,
  ⟨(some 22), none, [], false, .mv (.t 0)⟩,
  ⟨(some 23), none, [], false, .mv (.t 2)⟩,
  ⟨(some 24), none, [], false, .iad 7 none (.t 22) (.t 23)⟩,
  ⟨(some 25), none, [], false, .ld true 7 (.t 24)⟩,
  ⟨(some 26), none, [], false, .iad 7 none (.t 14) (.t 15)⟩,
  ⟨none, none, [], false, .st 7 (.t 26) (.t 21)⟩,
  ⟨(some 16), none, [], false, .mv (.t 0)⟩,
  ⟨(some 17), none, [], false, .mv (.t 3)⟩,
  ⟨(some 27), none, [], false, .iad 7 none (.t 16) (.t 17)⟩,
  ⟨none, none, [], false, .st 7 (.t 27) (.t 25)⟩]
def f117r3 : List I := [⟨(some 10), none, [], false, .mv (.t 2)⟩,
  ⟨(some 11), none, [], false, .bin .add .other (.t 10) (.c (.int .i64 1))⟩,
  ⟨(some 12), none, [], false, .mv (.t 3)⟩,
  ⟨(some 13), none, [], false, .bin .sub .other (.t 12) (.c (.int .i64 1))⟩,
  ⟨(some 2), none, [], false, .mv (.t 11)⟩,
  ⟨(some 3), none, [], false, .mv (.t 13)⟩]
def f117l0 : C := (.seq (.seq (.reg false f117r1) (.cond (.t 9) .skip (.exit 0))) (.seq (.block 1 (.reg true f117r2)) (.reg false f117r3)))
def f117 : Fn := ⟨[0, 2, 3, 9], (.seq (.reg false f117r0) (.block 0 (.loop f117l0))), []⟩
/-! 119: slices.rotateRight[stolon/api.Held] -/
def f119r0 : List I := [⟨(some 4), none, [], false, .mv (.t 0)⟩,
  ⟨(some 5), none, [], false, .mv (.t 0)⟩,
  ⟨(some 6), none, [], false, .len (.t 5)⟩,
  ⟨(some 7), none, [], false, .mv (.t 1)⟩,
  ⟨(some 8), none, [], false, .bin .sub .other (.t 6) (.t 7)⟩,
  ⟨(some 9), none, [], false, .call 127 [(.t 4), (.t 8)]⟩]
def f119 : Fn := ⟨[0, 1], (.reg false f119r0), []⟩
/-! 120: slices.DeleteFunc[[]stolon/api.Held,stolon/api.Held] -/
def f120r0 : List I := [⟨(some 4), none, [], false, .mv (.c (nilS))⟩]
def f120r1 : List I := [⟨(some 8), none, [], false, .mv (.t 0)⟩,
  ⟨(some 9), none, [], false, .mv (.t 1)⟩,
  ⟨(some 10), none, [], false, .call 128 [(.t 8), (.t 9)]⟩,
  ⟨(some 5), none, [], false, .mv (.t 10)⟩]
def f120r2 : List I := [⟨(some 11), none, [], false, .mv (.t 5)⟩,
  ⟨(some 12), none, [], false, .bin .eql .other (.t 11) (.c (.int .i64 (-1)))⟩]
def f120r3 : List I := [⟨(some 13), none, [], false, .mv (.t 0)⟩,
  ⟨(some 4), none, [], false, .mv (.t 13)⟩]
def f120r4 : List I := [⟨(some 14), none, [], false, .mv (.t 5)⟩,
  ⟨(some 15), none, [], false, .bin .add .other (.t 14) (.c (.int .i64 1))⟩,
  ⟨(some 6), none, [], false, .mv (.t 15)⟩]
def f120r5 : List I := [⟨(some 16), none, [], false, .mv (.t 6)⟩,
  ⟨(some 17), none, [], false, .mv (.t 0)⟩,
  ⟨(some 18), none, [], false, .len (.t 17)⟩,
  ⟨(some 19), none, [], false, .bin .lss .other (.t 16) (.t 18)⟩]
def f120r6 : List I := [⟨(some 22), none, [], false, .mv (.t 0)⟩,
  ⟨(some 23), none, [], false, .mv (.t 6)⟩,
  ⟨(some 24), none, [], false, .iad 2 none (.t 22) (.t 23)⟩,
  ⟨(some 25), none, [], false, .ld true 2 (.t 24)⟩,
  ⟨(some 7), none, [], false, .alloc [.int .u32 0, .int .i64 0]⟩,
  ⟨none, none, [], false, .st 2 (.t 7) (.t 25)⟩]
def f120r7 : List I := [⟨(some 26), none, [], false, .mv (.t 1)⟩,
  ⟨(some 27), none, [], false, .ld true 2 (.t 7)⟩,
  ⟨(some 28), none, [], false, .ccall (.t 26) [(.t 27)]⟩,
  ⟨(some 29), none, [], false, .un .not (.t 28)⟩]
def f120r8 : List I := [⟨(some 30), none, [], false, .mv (.t 0)⟩,
  ⟨(some 31), none, [], false, .mv (.t 5)⟩,
  ⟨(some 32), none, [], false, .ld true 2 (.t 7)⟩,
  ⟨(some 33), none, [], false, .iad 2 none (.t 30) (.t 31)⟩,
  ⟨none, none, [], false, .st 2 (.t 33) (.t 32)⟩]
def f120r9 : List I := [⟨(some 34), none, [], false, .mv (.t 5)⟩,
  ⟨(some 35), none, [], false, .bin .add .other (.t 34) (.c (.int .i64 1))⟩,
  ⟨(some 5), none, [], false, .mv (.t 35)⟩]
def f120r10 : List I := [⟨(some 20), none, [], false, .mv (.t 6)⟩,
  ⟨(some 21), none, [], false, .bin .add .other (.t 20) (.c (.int .i64 1))⟩,
  ⟨(some 6), none, [], false, .mv (.t 21)⟩]
def f120l0 : C := (.seq (.seq (.reg false f120r5) (.cond (.t 19) .skip (.exit 0))) (.seq (.block 1 (.seq (.reg false f120r6) (.seq (.reg false f120r7) (.cond (.t 29) (.seq (.reg false f120r8) (.reg false f120r9)) .skip)))) (.reg false f120r10)))
def f120r11 : List I := [⟨(some 36), none, [], false, .mv (.t 0)⟩,
  ⟨(some 37), none, [], false, .mv (.t 5)⟩,
  ⟨(some 38), none, [], false, .slice 2 (.t 36) (some (.t 37)) none none⟩,
  ⟨none, none, [], false, .clear 2 [.int .u32 0, .int .i64 0] (.t 38)⟩]
def f120r12 : List I := [⟨(some 39), none, [], false, .mv (.t 0)⟩,
  ⟨(some 40), none, [], false, .mv (.t 5)⟩,
  ⟨(some 41), none, [], false, .slice 2 (.t 39) none (some (.t 40)) none⟩,
  ⟨(some 4), none, [], false, .mv (.t 41)⟩]
def f120 : Fn := ⟨[0, 1, 4, 5, 6, 7, 12, 19, 29], (.seq (.reg false f120r0) (.seq (.reg false f120r1) (.seq (.seq (.reg false f120r2) (.cond (.t 12) (.seq (.reg false f120r3) .ret) .skip)) (.seq (.seq (.reg false f120r4) (.block 0 (.loop f120l0))) (.seq (.reg false f120r11) (.seq (.reg false f120r12) .ret)))))), [.tmp 4]⟩
/-! 121: (*stolon/memb.work).only$1 -/
def f121r0 : List I := [⟨(some 2), none, [], false, .box (.t 0)⟩,
  ⟨(some 3), none, [], false, .mv (.c (.bool false))⟩]
def f121r1 : List I := [⟨(some 4), none, [], false, .ld false 1 (.t 1)⟩,
  ⟨(some 5), none, [], false, .fad 0 (.t 2)⟩,
  ⟨(some 6), none, [], false, .ld false 1 (.t 5)⟩,
  ⟨(some 7), none, [], false, .call 106 [(.t 4), (.t 6)]⟩,
  ⟨(some 8), none, [], false, .un .not (.t 7)⟩,
  ⟨(some 3), none, [], false, .mv (.t 8)⟩]
def f121 : Fn := ⟨[0, 1, 2, 3], (.seq (.reg false f121r0) (.seq (.reg false f121r1) .ret)), [.tmp 3]⟩
/-! 122: slices.BinarySearch[[]stolon/api.Addr,stolon/api.Addr] -/
def f122r0 : List I := [⟨(some 4), none, [], false, .mv (.c (.int .i64 0))⟩,
  ⟨(some 5), none, [], false, .mv (.c (.bool false))⟩]
def f122r1 : List I := [⟨(some 10), none, [], false, .mv (.t 0)⟩,
  ⟨(some 11), none, [], false, .len (.t 10)⟩,
  ⟨(some 6), none, [], false, .mv (.t 11)⟩]
def f122r2 : List I := [⟨(some 12), none, [], false, .mv (.t 6)⟩,
  ⟨(some 7), none, [], false, .mv (.c (.int .i64 0))⟩,
  ⟨(some 8), none, [], false, .mv (.t 12)⟩]
def f122r3 : List I := [⟨(some 13), none, [], false, .mv (.t 7)⟩,
  ⟨(some 14), none, [], false, .mv (.t 8)⟩,
  ⟨(some 15), none, [], false, .bin .lss .other (.t 13) (.t 14)⟩]
def f122r4 : List I := [⟨(some 16), none, [], false, .mv (.t 7)⟩,
  ⟨(some 17), none, [], false, .mv (.t 8)⟩,
  ⟨(some 18), none, [], false, .bin .add .other (.t 16) (.t 17)⟩,
  ⟨(some 19), none, [], false, .conv .u64 (.t 18)⟩,
  ⟨(some 20), none, [], false, .bin .shr .other (.t 19) (.c (.int .u64 1))⟩,
  ⟨(some 21), none, [], false, .conv .i64 (.t 20)⟩,
  ⟨(some 9), none, [], false, .mv (.t 21)⟩]
def f122r5 : List I := [⟨(some 22), none, [], false, .mv (.t 0)⟩,
  ⟨(some 23), none, [], false, .mv (.t 9)⟩,
  ⟨(some 24), none, [], false, .iad 1 none (.t 22) (.t 23)⟩,
  ⟨(some 25), none, [], false, .ld false 1 (.t 24)⟩,
  ⟨(some 26), none, [], false, .mv (.t 1)⟩,
  ⟨(some 27), none, [], false, .call 129 [(.t 25), (.t 26)]⟩]
def f122r6 : List I := [⟨(some 28), none, [], false, .mv (.t 9)⟩,
  ⟨(some 29), none, [], false, .bin .add .other (.t 28) (.c (.int .i64 1))⟩,
  ⟨(some 7), none, [], false, .mv (.t 29)⟩]
def f122r7 : List I := [⟨(some 30), none, [], false, .mv (.t 9)⟩,
  ⟨(some 8), none, [], false, .mv (.t 30)⟩]
def f122l0 : C := (.seq (.seq (.reg false f122r3) (.cond (.t 15) .skip (.exit 0))) (.block 1 (.seq (.reg false f122r4) (.seq (.reg false f122r5) (.cond (.t 27) (.reg false f122r6) (.reg false f122r7))))))
def f122r8 : List I := [⟨(some 31), none, [], false, .mv (.t 7)⟩,
  ⟨(some 32), none, [], false, .mv (.t 7)⟩,
  ⟨(some 33), none, [], false, .mv (.t 6)⟩,
  ⟨(some 34), none, [], false, .bin .lss .other (.t 32) (.t 33)⟩,
  ⟨(some 35), none, [], false, .mv (.t 34)⟩,
  ⟨(some 36), (some (35, true)), [], false, .mv (.t 0)⟩,
  ⟨(some 37), (some (35, true)), [], false, .mv (.t 7)⟩,
  ⟨(some 38), (some (35, true)), [], false, .iad 1 none (.t 36) (.t 37)⟩,
  ⟨(some 39), (some (35, true)), [], false, .ld false 1 (.t 38)⟩,
  ⟨(some 40), (some (35, true)), [], false, .mv (.t 1)⟩,
  ⟨(some 41), (some (35, true)), [], false, .bin .eql .other (.t 39) (.t 40)⟩,
  ⟨(some 42), (some (35, true)), [], false, .mv (.t 41)⟩,
  ⟨(some 43), (some (42, false)), [], false, .mv (.t 0)⟩,
  ⟨(some 44), (some (42, false)), [], false, .mv (.t 7)⟩,
  ⟨(some 45), (some (42, false)), [], false, .iad 1 none (.t 43) (.t 44)⟩,
  ⟨(some 46), (some (42, false)), [], false, .ld false 1 (.t 45)⟩,
  ⟨(some 47), (some (42, false)), [], false, .call 130 [(.t 46)]⟩,
  ⟨(some 48), (some (42, false)), [], false, .mv (.t 47)⟩,
  ⟨(some 49), (some (48, true)), [], false, .mv (.t 1)⟩,
  ⟨(some 50), (some (48, true)), [], false, .call 130 [(.t 49)]⟩,
  ⟨(some 51), (some (42, false)), [], false, .pick (.t 48) (.t 50) (.c (.bool false))⟩,
  ⟨(some 52), (some (35, true)), [], false, .pick (.t 42) (.c (.bool true)) (.t 51)⟩,
  ⟨(some 53), none, [], false, .pick (.t 35) (.t 52) (.c (.bool false))⟩,
  ⟨(some 4), none, [], false, .mv (.t 31)⟩,
  ⟨(some 5), none, [], false, .mv (.t 53)⟩]
def f122 : Fn := ⟨[0, 1, 4, 5, 6, 7, 8, 9, 15, 27], (.seq (.reg false f122r0) (.seq (.reg false f122r1) (.seq (.reg false f122r2) (.seq (.block 0 (.loop f122l0)) (.seq (.reg false f122r8) .ret))))), [.tmp 4, .tmp 5]⟩
/-! 123: stolon/set.both -/
def f123r0 : List I := [⟨(some 2), none, [], false, .box (.t 0)⟩,
  ⟨(some 3), none, [], false, .box (.t 1)⟩,
  ⟨(some 4), none, [], false, .mv (.c (.nilf))⟩]
def f123r1 : List I := [⟨(some 5), none, [], false, .mkf 131 [] [(.t 2), (.t 3)]⟩,
  ⟨(some 4), none, [], false, .mv (.t 5)⟩]
def f123 : Fn := ⟨[0, 1, 2, 3, 4], (.seq (.reg false f123r0) (.seq (.reg false f123r1) .ret)), [.tmp 4]⟩
/-! 124: slices.AppendSeq[[]stolon/api.Addr,stolon/api.Addr] -/
def f124r0 : List I := [⟨(some 2), none, [], false, .box (.t 0)⟩,
  ⟨(some 4), none, [], false, .mv (.c (nilS))⟩]
def f124r1 : List I := [⟨(some 6), none, [], false, .mv (.t 1)⟩]
def f124r2 : List I := [⟨(some 5), none, [], false, .mv (.t 7)⟩]
def f124r3 : List I := [⟨(some 8), none, [], false, .ld false 1 (.t 2)⟩,
  ⟨(some 9), none, [], false, .mv (.t 5)⟩,
  ⟨(some 10), none, [], false, .bslice 1 1 [.int .u32 0] [(0, 1, (.t 9))]⟩,
  ⟨(some 11), none, [], false, .app 1 4 (.t 8) (.t 10)⟩,
  ⟨none, none, [], false, .st 1 (.t 2) (.t 11)⟩]
def f124r4 : List I := [⟨(some 12), none, [], false, .ld false 1 (.t 2)⟩,
  ⟨(some 4), none, [], false, .mv (.t 12)⟩]
def f124 : Fn := ⟨[0, 1, 2, 4, 5, 6, 7], (.seq (.reg false f124r0) (.seq (.seq (.reg false f124r1) (.block 0 (.range (.t 6) [7] (.reg false f124r2) (.block 1 (.reg false f124r3))))) (.seq (.reg false f124r4) .ret))), [.tmp 4]⟩
/-! 125: slices.pdqsortOrdered[stolon/api.Addr] -/
def f125r0 : List I := [⟨(some 8), none, [], false, .mv (.c (.bool true))⟩]
def f125r1 : List I := [⟨(some 9), none, [], false, .mv (.c (.bool true))⟩]
def f125r2 : List I := [⟨(some 19), none, [], false, .mv (.t 2)⟩,
  ⟨(some 20), none, [], false, .mv (.t 1)⟩,
  ⟨(some 21), none, [], false, .bin .sub .other (.t 19) (.t 20)⟩,
  ⟨(some 10), none, [], false, .mv (.t 21)⟩]
def f125r3 : List I := [⟨(some 22), none, [], false, .mv (.t 10)⟩,
  ⟨(some 23), none, [], false, .bin .leq .other (.t 22) (.c (.int .i64 12))⟩]
def f125r4 : List I := [⟨(some 24), none, [], false, .mv (.t 0)⟩,
  ⟨(some 25), none, [], false, .mv (.t 1)⟩,
  ⟨(some 26), none, [], false, .mv (.t 2)⟩,
  ⟨(some 27), none, [], false, .call 132 [(.t 24), (.t 25), (.t 26)]⟩]
def f125r5 : List I := [⟨(some 28), none, [], false, .mv (.t 3)⟩,
  ⟨(some 29), none, [], false, .bin .eql .other (.t 28) (.c (.int .i64 0))⟩]
def f125r6 : List I := [⟨(some 30), none, [], false, .mv (.t 0)⟩,
  ⟨(some 31), none, [], false, .mv (.t 1)⟩,
  ⟨(some 32), none, [], false, .mv (.t 2)⟩,
  ⟨(some 33), none, [], false, .call 133 [(.t 30), (.t 31), (.t 32)]⟩]
def f125r7 : List I := [⟨(some 34), none, [], false, .mv (.t 8)⟩,
  ⟨(some 35), none, [], false, .un .not (.t 34)⟩]
def f125r8 : List I := [⟨(some 36), none, [], false, .mv (.t 0)⟩,
  ⟨(some 37), none, [], false, .mv (.t 1)⟩,
  ⟨(some 38), none, [], false, .mv (.t 2)⟩,
  ⟨(some 39), none, [], false, .call 134 [(.t 36), (.t 37), (.t 38)]⟩]
def f125r9 : List I := [⟨(some 40), none, [], false, .mv (.t 3)⟩,
  ⟨(some 41), none, [], false, .bin .sub .other (.t 40) (.c (.int .i64 1))⟩,
  ⟨(some 3), none, [], false, .mv (.t 41)⟩]
def f125r10 : List I := [⟨(some 43), none, [], false, .mv (.t 0)⟩,
  ⟨(some 44), none, [], false, .mv (.t 1)⟩,
  ⟨(some 45), none, [], false, .mv (.t 2)⟩,
  ⟨(some 46), none, [], false, .call 135 [(.t 43), (.t 44), (.t 45)]⟩,
  ⟨(some 42), none, [], false, .mv (.t 46)⟩,
  ⟨(some 47), none, [], false, .ext 0 (.t 42)⟩,
  ⟨(some 48), none, [], false, .ext 1 (.t 42)⟩,
  ⟨(some 11), none, [], false, .mv (.t 47)⟩,
  ⟨(some 12), none, [], false, .mv (.t 48)⟩]
def f125r11 : List I := [⟨(some 49), none, [], false, .mv (.t 12)⟩,
  ⟨(some 50), none, [], false, .bin .eql .other (.t 49) (.c (.int .i64 2))⟩]
def f125r12 : List I := [⟨(some 51), none, [], false, .mv (.t 0)⟩,
  ⟨(some 52), none, [], false, .mv (.t 1)⟩,
  ⟨(some 53), none, [], false, .mv (.t 2)⟩,
  ⟨(some 54), none, [], false, .call 136 [(.t 51), (.t 52), (.t 53)]⟩]
def f125r13 : List I := [⟨(some 55), none, [], false, .mv (.t 2)⟩,
  ⟨(some 56), none, [], false, .bin .sub .other (.t 55) (.c (.int .i64 1))⟩,
  ⟨(some 57), none, [], false, .mv (.t 11)⟩,
  ⟨(some 58), none, [], false, .mv (.t 1)⟩,
  ⟨(some 59), none, [], false, .bin .sub .other (.t 57) (.t 58)⟩,
  ⟨(some 60), none, [], false, .bin .sub .other (.t 56) (.t 59)⟩,
  ⟨(some 11), none, [], false, .mv (.t 60)⟩]
def f125r14 : List I := [⟨(some 12), none, [], false, .mv (.c (.int .i64 1))⟩]
def f125r15 : List I := [⟨(some 61), none, [], false, .mv (.t 8)⟩,
  ⟨(some 62), none, [], false, .mv (.t 61)⟩,
  ⟨(some 63), (some (62, true)), [], false, .mv (.t 9)⟩,
  ⟨(some 64), none, [], false, .pick (.t 62) (.t 63) (.c (.bool false))⟩,
  ⟨(some 65), none, [], false, .mv (.t 64)⟩,
  ⟨(some 66), (some (65, true)), [], false, .mv (.t 12)⟩,
  ⟨(some 67), (some (65, true)), [], false, .bin .eql .other (.t 66) (.c (.int .i64 1))⟩,
  ⟨(some 68), none, [], false, .pick (.t 65) (.t 67) (.c (.bool false))⟩]
def f125r16 : List I := [⟨(some 69), none, [], false, .mv (.t 0)⟩,
  ⟨(some 70), none, [], false, .mv (.t 1)⟩,
  ⟨(some 71), none, [], false, .mv (.t 2)⟩,
  ⟨(some 72), none, [], false, .call 137 [(.t 69), (.t 70), (.t 71)]⟩]
def f125r17 : List I := [⟨(some 73), none, [], false, .mv (.t 1)⟩,
  ⟨(some 74), none, [], false, .bin .gtr .other (.t 73) (.c (.int .i64 0))⟩,
  ⟨(some 75), none, [], false, .mv (.t 74)⟩,
  ⟨(some 76), (some (75, true)), [], false, .mv (.t 0)⟩,
  ⟨(some 77), (some (75, true)), [], false, .mv (.t 1)⟩,
  ⟨(some 78), (some (75, true)), [], false, .bin .sub .other (.t 77) (.c (.int .i64 1))⟩,
  ⟨(some 79), (some (75, true)), [], false, .iad 1 none (.t 76) (.t 78)⟩,
  ⟨(some 80), (some (75, true)), [], false, .ld false 1 (.t 79)⟩,
  ⟨(some 81), (some (75, true)), [], false, .mv (.t 0)⟩,
  ⟨(some 82), (some (75, true)), [], false, .mv (.t 11)⟩,
  ⟨(some 83), (some (75, true)), [], false, .iad 1 none (.t 81) (.t 82)⟩,
  ⟨(some 84), (some (75, true)), [], false, .ld false 1 (.t 83)⟩,
  ⟨(some 85), (some (75, true)), [], false, .call 129 [(.t 80), (.t 84)]⟩,
  ⟨(some 86), (some (75, true)), [], false, .un .not (.t 85)⟩,
  ⟨(some 87), none, [], false, .pick (.t 75) (.t 86) (.c (.bool false))⟩]
def f125r18 : List I := [⟨(some 88), none, [], false, .mv (.t 0)⟩,
  ⟨(some 89), none, [], false, .mv (.t 1)⟩,
  ⟨(some 90), none, [], false, .mv (.t 2)⟩,
  ⟨(some 91), none, [], false, .mv (.t 11)⟩,
  ⟨(some 92), none, [], false, .call 138 [(.t 88), (.t 89), (.t 90), (.t 91)]⟩,
  ⟨(some 13), none, [], false, .mv (.t 92)⟩]
def f125r19 : List I := [⟨(some 93), none, [], false, .mv (.t 13)⟩,
  ⟨(some 1), none, [], false, .mv (.t 93)⟩]
def f125r20 : List I := [⟨(some 95), none, [], false, .mv (.t 0)⟩,
  ⟨(some 96), none, [], false, .mv (.t 1)⟩,
  ⟨(some 97), none, [], false, .mv (.t 2)⟩,
  ⟨(some 98), none, [], false, .mv (.t 11)⟩,
  ⟨(some 99), none, [], false, .call 139 [(.t 95), (.t 96), (.t 97), (.t 98)]⟩,
  ⟨(some 94), none, [], false, .mv (.t 99)⟩,
  ⟨(some 100), none, [], false, .ext 0 (.t 94)⟩,
  ⟨(some 101), none, [], false, .ext 1 (.t 94)⟩,
  ⟨(some 14), none, [], false, .mv (.t 100)⟩,
  ⟨(some 15), none, [], false, .mv (.t 101)⟩]
def f125r21 : List I := [⟨(some 102), none, [], false, .mv (.t 15)⟩,
  ⟨(some 9), none, [], false, .mv (.t 102)⟩]
def f125r22 : List I := [⟨(some 103), none, [], false, .mv (.t 14)⟩,
  ⟨(some 104), none, [], false, .mv (.t 1)⟩,
  ⟨(some 105), none, [], false, .bin .sub .other (.t 103) (.t 104)⟩,
  ⟨(some 106), none, [], false, .mv (.t 2)⟩,
  ⟨(some 107), none, [], false, .mv (.t 14)⟩,
  ⟨(some 108), none, [], false, .bin .sub .other (.t 106) (.t 107)⟩,
  ⟨(some 16), none, [], false, .mv (.t 105)⟩,
  ⟨(some 17), none, [], false, .mv (.t 108)⟩]
def f125r23 : List I := [⟨(some 109), none, [], false, .mv (.t 10)⟩,
  ⟨(some 110), none, [], false, .bin .quo .other (.t 109) (.c (.int .i64 8))⟩,
  ⟨(some 18), none, [], false, .mv (.t 110)⟩]
def f125r24 : List I := [⟨(some 111), none, [], false, .mv (.t 16)⟩,
  ⟨(some 112), none, [], false, .mv (.t 17)⟩,
  ⟨(some 113), none, [], false, .bin .lss .other (.t 111) (.t 112)⟩]
def f125r25 : List I := [⟨(some 114), none, [], false, .mv (.t 16)⟩,
  ⟨(some 115), none, [], false, .mv (.t 18)⟩,
  ⟨(some 116), none, [], false, .bin .geq .other (.t 114) (.t 115)⟩,
  ⟨(some 8), none, [], false, .mv (.t 116)⟩]
def f125r26 : List I := [⟨(some 117), none, [], false, .mv (.t 0)⟩,
  ⟨(some 118), none, [], false, .mv (.t 1)⟩,
  ⟨(some 119), none, [], false, .mv (.t 14)⟩,
  ⟨(some 120), none, [], false, .mv (.t 3)⟩,
  ⟨(some 121), none, [], false, .call 125 [(.t 117), (.t 118), (.t 119), (.t 120)]⟩]
def f125r27 : List I := [⟨(some 122), none, [], false, .mv (.t 14)⟩,
  ⟨(some 123), none, [], false, .bin .add .other (.t 122) (.c (.int .i64 1))⟩,
  ⟨(some 1), none, [], false, .mv (.t 123)⟩]
def f125r28 : List I := [⟨(some 124), none, [], false, .mv (.t 17)⟩,
  ⟨(some 125), none, [], false, .mv (.t 18)⟩,
  ⟨(some 126), none, [], false, .bin .geq .other (.t 124) (.t 125)⟩,
  ⟨(some 8), none, [], false, .mv (.t 126)⟩]
def f125r29 : List I := [⟨(some 127), none, [], false, .mv (.t 0)⟩,
  ⟨(some 128), none, [], false, .mv (.t 14)⟩,
  ⟨(some 129), none, [], false, .bin .add .other (.t 128) (.c (.int .i64 1))⟩,
  ⟨(some 130), none, [], false, .mv (.t 2)⟩,
  ⟨(some 131), none, [], false, .mv (.t 3)⟩,
  ⟨(some 132), none, [], false, .call 125 [(.t 127), (.t 129), (.t 130), (.t 131)]⟩]
def f125r30 : List I := [⟨(some 133), none, [], false, .mv (.t 14)⟩,
  ⟨(some 2), none, [], false, .mv (.t 133)⟩]
def f125l0 : C := (.block 1 (.seq (.reg false f125r2) (.seq (.seq (.reg false f125r3) (.cond (.t 23) (.seq (.reg false f125r4) .ret) .skip)) (.seq (.seq (.reg false f125r5) (.cond (.t 29) (.seq (.reg false f125r6) .ret) .skip)) (.seq (.seq (.reg false f125r7) (.cond (.t 35) (.seq (.reg false f125r8) (.reg false f125r9)) .skip)) (.seq (.reg false f125r10) (.seq (.seq (.reg false f125r11) (.cond (.t 50) (.seq (.reg false f125r12) (.seq (.reg false f125r13) (.reg false f125r14))) .skip)) (.seq (.seq (.reg false f125r15) (.cond (.t 68) (.seq (.reg false f125r16) (.cond (.t 72) .ret .skip)) .skip)) (.seq (.seq (.reg true f125r17) (.cond (.t 87) (.seq (.reg false f125r18) (.seq (.reg false f125r19) (.exit 1))) .skip)) (.seq (.reg false f125r20) (.seq (.reg false f125r21) (.seq (.reg false f125r22) (.seq (.reg false f125r23) (.seq (.reg false f125r24) (.cond (.t 113) (.seq (.reg false f125r25) (.seq (.reg false f125r26) (.reg false f125r27))) (.seq (.reg false f125r28) (.seq (.reg false f125r29) (.reg false f125r30))))))))))))))))))
def f125 : Fn := ⟨[0, 1, 2, 3, 8, 9, 10, 11, 12, 13, 14, 15, 16, 17, 18, 23, 29, 35, 50, 68, 72, 87, 113], (.seq (.reg false f125r0) (.seq (.reg false f125r1) (.block 0 (.loop f125l0)))), []⟩
/-! 126: math/bits.Len -/
def f126r0 : List I := [⟨(some 2), none, [], false, .mv (.c (.int .i64 0))⟩]
def f126r1 : List I := [⟨(some 3), none, [], false, .mv (.t 0)⟩,
  ⟨(some 4), none, [], false, .conv .u32 (.t 3)⟩,
  ⟨(some 5), none, [], false, .call 140 [(.t 4)]⟩,
  ⟨(some 2), none, [], false, .mv (.t 5)⟩]
def f126r2 : List I := [⟨(some 6), none, [], false, .mv (.t 0)⟩,
  ⟨(some 7), none, [], false, .call 141 [(.t 6)]⟩,
  ⟨(some 2), none, [], false, .mv (.t 7)⟩]
def f126 : Fn := ⟨[0, 2], (.seq (.reg false f126r0) (.seq (.cond (.c (.bool false)) (.seq (.reg false f126r1) .ret) .skip) (.seq (.reg false f126r2) .ret))), [.tmp 2]⟩
/-! 127: slices.rotateLeft[stolon/api.Held] -/
def f127r0 : List I := [⟨(some 4), none, [], false, .mv (.t 0)⟩,
  ⟨(some 5), none, [], false, .mv (.t 1)⟩,
  ⟨(some 6), none, [], false, .slice 2 (.t 4) none (some (.t 5)) none⟩,
  ⟨(some 7), none, [], false, .call 142 [(.t 6)]⟩]
def f127r1 : List I := [⟨(some 8), none, [], false, .mv (.t 0)⟩,
  ⟨(some 9), none, [], false, .mv (.t 1)⟩,
  ⟨(some 10), none, [], false, .slice 2 (.t 8) (some (.t 9)) none none⟩,
  ⟨(some 11), none, [], false, .call 142 [(.t 10)]⟩]
def f127r2 : List I := [⟨(some 12), none, [], false, .mv (.t 0)⟩,
  ⟨(some 13), none, [], false, .call 142 [(.t 12)]⟩]
def f127 : Fn := ⟨[0, 1], (.seq (.reg false f127r0) (.seq (.reg false f127r1) (.reg false f127r2))), []⟩
/-! 128: slices.IndexFunc[[]stolon/api.Held,stolon/api.Held] -/
def f128r0 : List I := [⟨(some 4), none, [], false, .mv (.c (.int .i64 0))⟩]
def f128r1 : List I := [⟨(some 6), none, [], false, .mv (.t 0)⟩,
  ⟨(some 7), none, [], false, .len (.t 6)⟩,
  ⟨(some 8), none, [], false, .mv (.c (.int .i64 0))⟩]
def f128r2 : List I := [⟨(some 9), none, [], false, .bin .lss .other (.t 8) (.t 7)⟩]
def f128r3 : List I := [⟨(some 10), none, [], false, .mv (.t 8)⟩,
  ⟨(some 5), none, [], false, .mv (.t 10)⟩]
def f128r4 : List I := [⟨(some 11), none, [], false, .mv (.t 1)⟩,
  ⟨(some 12), none, [], false, .mv (.t 0)⟩,
  ⟨(some 13), none, [], false, .mv (.t 5)⟩,
  ⟨(some 14), none, [], false, .iad 2 none (.t 12) (.t 13)⟩,
  ⟨(some 15), none, [], false, .ld true 2 (.t 14)⟩,
  ⟨(some 16), none, [], false, .ccall (.t 11) [(.t 15)]⟩]
def f128r5 : List I := [⟨(some 17), none, [], false, .mv (.t 5)⟩,
  ⟨(some 4), none, [], false, .mv (.t 17)⟩]
def f128r6 : List I := [⟨(some 18), none, [], false, .bin .add .other (.t 8) (.c (.int .i64 1))⟩,
  ⟨(some 8), none, [], false, .mv (.t 18)⟩]
def f128l0 : C := (.seq (.reg false f128r2) (.seq (.cond (.t 9) .skip (.exit 0)) (.seq (.block 1 (.seq (.reg false f128r3) (.seq (.reg false f128r4) (.cond (.t 16) (.seq (.reg false f128r5) .ret) .skip)))) (.reg false f128r6))))
def f128r7 : List I := [⟨(some 4), none, [], false, .mv (.c (.int .i64 (-1)))⟩]
def f128 : Fn := ⟨[0, 1, 4, 5, 7, 8, 9, 16], (.seq (.reg false f128r0) (.seq (.seq (.reg false f128r1) (.block 0 (.loop f128l0))) (.seq (.reg false f128r7) .ret))), [.tmp 4]⟩
/-! 129: cmp.Less[stolon/api.Addr] -/
def f129r0 : List I := [⟨(some 4), none, [], false, .mv (.c (.bool false))⟩]
def f129r1 : List I := [⟨(some 5), none, [], false, .mv (.t 0)⟩,
  ⟨(some 6), none, [], false, .call 72 [(.t 5)]⟩,
  ⟨(some 7), none, [], false, .mv (.t 6)⟩,
  ⟨(some 8), (some (7, true)), [], false, .mv (.t 1)⟩,
  ⟨(some 9), (some (7, true)), [], false, .call 72 [(.t 8)]⟩,
  ⟨(some 10), (some (7, true)), [], false, .un .not (.t 9)⟩,
  ⟨(some 11), none, [], false, .pick (.t 7) (.t 10) (.c (.bool false))⟩,
  ⟨(some 12), none, [], false, .mv (.t 11)⟩,
  ⟨(some 13), (some (12, false)), [], false, .mv (.t 0)⟩,
  ⟨(some 14), (some (12, false)), [], false, .mv (.t 1)⟩,
  ⟨(some 15), (some (12, false)), [], false, .bin .lss .other (.t 13) (.t 14)⟩,
  ⟨(some 16), none, [], false, .pick (.t 12) (.c (.bool true)) (.t 15)⟩,
  ⟨(some 4), none, [], false, .mv (.t 16)⟩]
def f129 : Fn := ⟨[0, 1, 4], (.seq (.reg false f129r0) (.seq (.reg false f129r1) .ret)), [.tmp 4]⟩
/-! 130: slices.isNaN[stolon/api.Addr] -/
def f130r0 : List I := [⟨(some 2), none, [], false, .mv (.c (.bool false))⟩]
def f130r1 : List I := [⟨(some 3), none, [], false, .mv (.t 0)⟩,
  ⟨(some 4), none, [], false, .mv (.t 0)⟩,
  ⟨(some 5), none, [], false, .bin .neq .other (.t 3) (.t 4)⟩,
  ⟨(some 2), none, [], false, .mv (.t 5)⟩]
def f130 : Fn := ⟨[0, 2], (.seq (.reg false f130r0) (.seq (.reg false f130r1) .ret)), [.tmp 2]⟩
/-! 131: stolon/set.both$1 -/
def f131r0 : List I := [⟨(some 6), none, [], false, .ld false 1 (.t 1)⟩,
  ⟨(some 7), none, [], false, .len (.t 6)⟩,
  ⟨(some 8), none, [], false, .ld false 1 (.t 2)⟩,
  ⟨(some 9), none, [], false, .len (.t 8)⟩,
  ⟨(some 10), none, [], false, .bin .add .other (.t 7) (.t 9)⟩,
  ⟨(some 11), none, [], false, .bin .gtr .other (.t 10) (.c (.int .i64 0))⟩]
def f131r1 : List I := [⟨(some 12), none, [false], false, .ld false 1 (.t 2)⟩,
  ⟨(some 13), none, [], false, .len (.t 12)⟩,
  ⟨(some 14), none, [], false, .bin .eql .other (.t 13) (.c (.int .i64 0))⟩,
  ⟨(some 15), none, [], false, .mv (.t 14)⟩,
  ⟨(some 16), (some (15, false)), [false], false, .ld false 1 (.t 1)⟩,
  ⟨(some 17), (some (15, false)), [], false, .len (.t 16)⟩,
  ⟨(some 18), (some (15, false)), [], false, .bin .gtr .other (.t 17) (.c (.int .i64 0))⟩,
  ⟨(some 19), (some (15, false)), [], false, .mv (.t 18)⟩,
  ⟨(some 20), (some (19, true)), [false], false, .ld false 1 (.t 1)⟩,
  ⟨(some 21), (some (19, true)), [], false, .iad 1 none (.t 20) (.c (.int .i64 0))⟩,
  ⟨(some 22), (some (19, true)), [false], false, .ld false 1 (.t 21)⟩,
  ⟨(some 23), (some (19, true)), [false], false, .ld false 1 (.t 2)⟩,
  ⟨(some 24), (some (19, true)), [], false, .iad 1 none (.t 23) (.c (.int .i64 0))⟩,
  ⟨(some 25), (some (19, true)), [false], false, .ld false 1 (.t 24)⟩,
  ⟨(some 26), (some (19, true)), [], false, .bin .leq .other (.t 22) (.t 25)⟩,
  ⟨(some 27), (some (15, false)), [], false, .pick (.t 19) (.t 26) (.c (.bool false))⟩,
  ⟨(some 28), none, [], false, .pick (.t 15) (.c (.bool true)) (.t 27)⟩,
  ⟨(some 29), none, [false], false, .ld false 1 (.t 1)⟩,
  ⟨(some 30), none, [], false, .len (.t 29)⟩,
  ⟨(some 31), none, [], false, .bin .eql .other (.t 30) (.c (.int .i64 0))⟩,
  ⟨(some 32), none, [], false, .mv (.t 31)⟩,
  ⟨(some 33), (some (32, false)), [false], false, .ld false 1 (.t 2)⟩,
  ⟨(some 34), (some (32, false)), [], false, .len (.t 33)⟩,
  ⟨(some 35), (some (32, false)), [], false, .bin .gtr .other (.t 34) (.c (.int .i64 0))⟩,
  ⟨(some 36), (some (32, false)), [], false, .mv (.t 35)⟩,
  ⟨(some 37), (some (36, true)), [false], false, .ld false 1 (.t 2)⟩,
  ⟨(some 38), (some (36, true)), [], false, .iad 1 none (.t 37) (.c (.int .i64 0))⟩,
  ⟨(some 39), (some (36, true)), [false], false, .ld false 1 (.t 38)⟩,
  ⟨(some 40), (some (36, true)), [false], false, .ld false 1 (.t 1)⟩,
  ⟨(some 41), (some (36, true)), [], false, .iad 1 none (.t 40) (.c (.int .i64 0))⟩,
  ⟨(some 42), (some (36, true)), [false], false, .ld false 1 (.t 41)⟩,
  ⟨(some 43), (some (36, true)), [], false, .bin .leq .other (.t 39) (.t 42)⟩,
  ⟨(some 44), (some (32, false)), [], false, .pick (.t 36) (.t 43) (.c (.bool false))⟩,
  ⟨(some 45), none, [], false, .pick (.t 32) (.c (.bool true)) (.t 44)⟩,
  ⟨(some 46), none, [], false, .build [.bool false, .bool false] [(0, 1, (.t 28)), (1, 1, (.t 45))]⟩,
  ⟨(some 4), none, [], false, .alloc [.bool false, .bool false]⟩,
  ⟨none, none, [], false, .st 2 (.t 4) (.t 46)⟩]
def f131r2 : List I := [⟨(some 5), none, [], false, .mv (.c (.int .u32 0))⟩]
def f131r3 : List I := [⟨(some 47), none, [], false, .fad 0 (.t 4)⟩,
  ⟨(some 48), none, [], false, .ld false 1 (.t 47)⟩]
def f131r4 : List I := [⟨(some 49), none, [], false, .ld false 1 (.t 1)⟩,
  ⟨(some 50), none, [], false, .iad 1 none (.t 49) (.c (.int .i64 0))⟩,
  ⟨(some 51), none, [], false, .ld false 1 (.t 50)⟩,
  ⟨(some 52), none, [], false, .ld false 1 (.t 1)⟩,
  ⟨(some 53), none, [], false, .slice 1 (.t 52) (some (.c (.int .i64 1))) none none⟩,
  ⟨(some 5), none, [], false, .mv (.t 51)⟩,
  ⟨none, none, [], false, .st 1 (.t 1) (.t 53)⟩]
def f131r5 : List I := [⟨(some 54), none, [], false, .fad 1 (.t 4)⟩,
  ⟨(some 55), none, [], false, .ld false 1 (.t 54)⟩]
def f131r6 : List I := [⟨(some 56), none, [], false, .ld false 1 (.t 2)⟩,
  ⟨(some 57), none, [], false, .iad 1 none (.t 56) (.c (.int .i64 0))⟩,
  ⟨(some 58), none, [], false, .ld false 1 (.t 57)⟩,
  ⟨(some 59), none, [], false, .ld false 1 (.t 2)⟩,
  ⟨(some 60), none, [], false, .slice 1 (.t 59) (some (.c (.int .i64 1))) none none⟩,
  ⟨(some 5), none, [], false, .mv (.t 58)⟩,
  ⟨none, none, [], false, .st 1 (.t 2) (.t 60)⟩]
def f131r7 : List I := [⟨(some 61), none, [], false, .mv (.t 0)⟩,
  ⟨(some 62), none, [], false, .mv (.t 5)⟩,
  ⟨(some 63), none, [], false, .ld true 2 (.t 4)⟩,
  ⟨(some 64), none, [], false, .ccall (.t 61) [(.t 62), (.t 63)]⟩,
  ⟨(some 65), none, [], false, .un .not (.t 64)⟩]
def f131l0 : C := (.seq (.seq (.reg false f131r0) (.cond (.t 11) .skip (.exit 0))) (.block 1 (.seq (.reg true f131r1) (.seq (.reg false f131r2) (.seq (.seq (.reg false f131r3) (.cond (.t 48) (.reg true f131r4) .skip)) (.seq (.seq (.reg false f131r5) (.cond (.t 55) (.reg true f131r6) .skip)) (.seq (.reg false f131r7) (.cond (.t 65) .ret .skip))))))))
def f131 : Fn := ⟨[0, 1, 2, 4, 5, 11, 48, 55, 65], (.block 0 (.loop f131l0)), []⟩
/-! 132: slices.insertionSortOrdered[stolon/api.Addr] -/
def f132r0 : List I := [⟨(some 8), none, [], false, .mv (.t 1)⟩,
  ⟨(some 9), none, [], false, .bin .add .other (.t 8) (.c (.int .i64 1))⟩,
  ⟨(some 6), none, [], false, .mv (.t 9)⟩]
def f132r1 : List I := [⟨(some 10), none, [], false, .mv (.t 6)⟩,
  ⟨(some 11), none, [], false, .mv (.t 2)⟩,
  ⟨(some 12), none, [], false, .bin .lss .other (.t 10) (.t 11)⟩]
def f132r2 : List I := [⟨(some 15), none, [], false, .mv (.t 6)⟩,
  ⟨(some 7), none, [], false, .mv (.t 15)⟩]
def f132r3 : List I := [⟨(some 16), none, [], false, .mv (.t 7)⟩,
  ⟨(some 17), none, [], false, .mv (.t 1)⟩,
  ⟨(some 18), none, [], false, .bin .gtr .other (.t 16) (.t 17)⟩,
  ⟨(some 19), none, [], false, .mv (.t 18)⟩,
  ⟨(some 20), (some (19, true)), [], false, .mv (.t 0)⟩,
  ⟨(some 21), (some (19, true)), [], false, .mv (.t 7)⟩,
  ⟨(some 22), (some (19, true)), [], false, .iad 1 none (.t 20) (.t 21)⟩,
  ⟨(some 23), (some (19, true)), [], false, .ld false 1 (.t 22)⟩,
  ⟨(some 24), (some (19, true)), [], false, .mv (.t 0)⟩,
  ⟨(some 25), (some (19, true)), [], false, .mv (.t 7)⟩,
  ⟨(some 26), (some (19, true)), [], false, .bin .sub .other (.t 25) (.c (.int .i64 1))⟩,
  ⟨(some 27), (some (19, true)), [], false, .iad 1 none (.t 24) (.t 26)⟩,
  ⟨(some 28), (some (19, true)), [], false, .ld false 1 (.t 27)⟩,
  ⟨(some 29), (some (19, true)), [], false, .call 129 [(.t 23), (.t 28)]⟩,
  ⟨(some 30), none, [], false, .pick (.t 19) (.t 29) (.c (.bool false))⟩]
def f132r4 : List I := [⟨(some 33), none, [], false, .mv (.t 0)⟩,
  ⟨(some 34), none, [], false, .mv (.t 7)⟩,
  ⟨(some 38), none, [], false, .mv (.t 0)⟩,
  ⟨(some 39), none, [], false, .mv (.t 7)⟩,
  ⟨(some 40), none, [], false, .bin .sub .other (.t 39) (.c (.int .i64 1))⟩,
  ⟨(some 41), none, [], false, .iad 1 none (.t 38) (.t 40)⟩,
  ⟨(some 42), none, [], false, .ld false 1 (.t 41)⟩,
  ⟨(some 43), none, [], false, .mv (.t 0)⟩,
  ⟨(some 44), none, [], false, .mv (.t 7)⟩,
  ⟨(some 45), none, [], false, .iad 1 none (.t 43) (.t 44)⟩,
  ⟨(some 46), none, [], false, .ld false 1 (.t 45)⟩,
  ⟨(some 47), none, [], false, .iad 1 none (.t 33) (.t 34)⟩,
  ⟨none, none, [], false, .st 1 (.t 47) (.t 42)⟩,
  ⟨(some 35), none, [], false, .mv (.t 0)⟩,
  ⟨(some 36), none, [], false, .mv (.t 7)⟩,
  ⟨(some 37), none, [], false, .bin .sub .other (.t 36) (.c (.int .i64 1))⟩,
  ⟨(some 48), none, [], false, .iad 1 none (.t 35) (.t 37)⟩,
  ⟨none, none, [], false, .st 1 (.t 48) (.t 46)⟩]
def f132r5 : List I := [⟨(some 31), none, [], false, .mv (.t 7)⟩,
  ⟨(some 32), none, [], false, .bin .sub .other (.t 31) (.c (.int .i64 1))⟩,
  ⟨(some 7), none, [], false, .mv (.t 32)⟩]
def f132l0 : C := (.seq (.seq (.reg true f132r3) (.cond (.t 30) .skip (.exit 2))) (.seq (.block 3 (.reg true f132r4)) (.reg false f132r5)))
def f132r6 : List I := [⟨(some 13), none, [], false, .mv (.t 6)⟩,
  ⟨(some 14), none, [], false, .bin .add .other (.t 13) (.c (.int .i64 1))⟩,
  ⟨(some 6), none, [], false, .mv (.t 14)⟩]
def f132l1 : C := (.seq (.seq (.reg false f132r1) (.cond (.t 12) .skip (.exit 0))) (.seq (.block 1 (.seq (.reg false f132r2) (.block 2 (.loop f132l0)))) (.reg false f132r6)))
def f132 : Fn := ⟨[0, 1, 2, 6, 7, 12, 30], (.seq (.reg false f132r0) (.block 0 (.loop f132l1))), []⟩
/-! 133: slices.heapSortOrdered[stolon/api.Addr] -/
def f133r0 : List I := [⟨(some 11), none, [], false, .mv (.t 1)⟩,
  ⟨(some 6), none, [], false, .mv (.t 11)⟩]
def f133r1 : List I := [⟨(some 7), none, [], false, .mv (.c (.int .i64 0))⟩]
def f133r2 : List I := [⟨(some 12), none, [], false, .mv (.t 2)⟩,
  ⟨(some 13), none, [], false, .mv (.t 1)⟩,
  ⟨(some 14), none, [], false, .bin .sub .other (.t 12) (.t 13)⟩,
  ⟨(some 8), none, [], false, .mv (.t 14)⟩]
def f133r3 : List I := [⟨(some 15), none, [], false, .mv (.t 8)⟩,
  ⟨(some 16), none, [], false, .bin .sub .other (.t 15) (.c (.int .i64 1))⟩,
  ⟨(some 17), none, [], false, .bin .quo .other (.t 16) (.c (.int .i64 2))⟩,
  ⟨(some 9), none, [], false, .mv (.t 17)⟩]
def f133r4 : List I := [⟨(some 18), none, [], false, .mv (.t 9)⟩,
  ⟨(some 19), none, [], false, .bin .geq .other (.t 18) (.c (.int .i64 0))⟩]
def f133r5 : List I := [⟨(some 22), none, [], false, .mv (.t 0)⟩,
  ⟨(some 23), none, [], false, .mv (.t 9)⟩,
  ⟨(some 24), none, [], false, .mv (.t 8)⟩,
  ⟨(some 25), none, [], false, .mv (.t 6)⟩,
  ⟨(some 26), none, [], false, .call 143 [(.t 22), (.t 23), (.t 24), (.t 25)]⟩]
def f133r6 : List I := [⟨(some 20), none, [], false, .mv (.t 9)⟩,
  ⟨(some 21), none, [], false, .bin .sub .other (.t 20) (.c (.int .i64 1))⟩,
  ⟨(some 9), none, [], false, .mv (.t 21)⟩]
def f133l0 : C := (.seq (.seq (.reg false f133r4) (.cond (.t 19) .skip (.exit 0))) (.seq (.block 1 (.reg false f133r5)) (.reg false f133r6)))
def f133r7 : List I := [⟨(some 27), none, [], false, .mv (.t 8)⟩,
  ⟨(some 28), none, [], false, .bin .sub .other (.t 27) (.c (.int .i64 1))⟩,
  ⟨(some 10), none, [], false, .mv (.t 28)⟩]
def f133r8 : List I := [⟨(some 29), none, [], false, .mv (.t 10)⟩,
  ⟨(some 30), none, [], false, .bin .geq .other (.t 29) (.c (.int .i64 0))⟩]
def f133r9 : List I := [⟨(some 33), none, [], false, .mv (.t 0)⟩,
  ⟨(some 34), none, [], false, .mv (.t 6)⟩,
  ⟨(some 39), none, [], false, .mv (.t 0)⟩,
  ⟨(some 40), none, [], false, .mv (.t 6)⟩,
  ⟨(some 41), none, [], false, .mv (.t 10)⟩,
  ⟨(some 42), none, [], false, .bin .add .other (.t 40) (.t 41)⟩,
  ⟨(some 43), none, [], false, .iad 1 none (.t 39) (.t 42)⟩,
  ⟨(some 44), none, [], false, .ld false 1 (.t 43)⟩,
  ⟨(some 45), none, [], false, .mv (.t 0)⟩,
  ⟨(some 46), none, [], false, .mv (.t 6)⟩,
  ⟨(some 47), none, [], false, .iad 1 none (.t 45) (.t 46)⟩,
  ⟨(some 48), none, [], false, .ld false 1 (.t 47)⟩,
  ⟨(some 49), none, [], false, .iad 1 none (.t 33) (.t 34)⟩,
  ⟨none, none, [], false, .st 1 (.t 49) (.t 44)⟩,
  ⟨(some 35), none, [], false, .mv (.t 0)⟩,
  ⟨(some 36), none, [], false, .mv (.t 6)⟩,
  ⟨(some 37), none, [], false, .mv (.t 10)⟩,
  ⟨(some 38), none, [], false, .bin .add .other (.t 36) (.t 37)⟩,
  ⟨(some 50), none, [], false, .iad 1 none (.t 35) (.t 38)⟩,
  ⟨none, none, [], false, .st 1 (.t 50) (.t 48)⟩]
def f133r10 : List I := [⟨(some 51), none, [], false, .mv (.t 0)⟩,
  ⟨(some 52), none, [], false, .mv (.t 7)⟩,
  ⟨(some 53), none, [], false, .mv (.t 10)⟩,
  ⟨(some 54), none, [], false, .mv (.t 6)⟩,
  ⟨(some 55), none, [], false, .call 143 [(.t 51), (.t 52), (.t 53), (.t 54)]⟩]
def f133r11 : List I := [⟨(some 31), none, [], false, .mv (.t 10)⟩,
  ⟨(some 32), none, [], false, .bin .sub .other (.t 31) (.c (.int .i64 1))⟩,
  ⟨(some 10), none, [], false, .mv (.t 32)⟩]
def f133l1 : C := (.seq (.seq (.reg false f133r8) (.cond (.t 30) .skip (.exit 2))) (.seq (.block 3 (.seq (.reg true f133r9) (.reg false f133r10))) (.reg false f133r11)))
def f133 : Fn := ⟨[0, 1, 2, 6, 7, 8, 9, 10, 19, 30], (.seq (.reg false f133r0) (.seq (.reg false f133r1) (.seq (.reg false f133r2) (.seq (.seq (.reg false f133r3) (.block 0 (.loop f133l0))) (.seq (.reg false f133r7) (.block 2 (.loop f133l1))))))), []⟩
/-! 134: slices.breakPatternsOrdered[stolon/api.Addr] -/
def f134r0 : List I := [⟨(some 11), none, [], false, .mv (.t 2)⟩,
  ⟨(some 12), none, [], false, .mv (.t 1)⟩,
  ⟨(some 13), none, [], false, .bin .sub .other (.t 11) (.t 12)⟩,
  ⟨(some 6), none, [], false, .mv (.t 13)⟩]
def f134r1 : List I := [⟨(some 14), none, [], false, .mv (.t 6)⟩,
  ⟨(some 15), none, [], false, .bin .geq .other (.t 14) (.c (.int .i64 8))⟩]
def f134r2 : List I := [⟨(some 16), none, [], false, .mv (.t 6)⟩,
  ⟨(some 17), none, [], false, .conv .u64 (.t 16)⟩,
  ⟨(some 7), none, [], false, .alloc [.int .u64 0]⟩,
  ⟨none, none, [], false, .st 1 (.t 7) (.t 17)⟩]
def f134r3 : List I := [⟨(some 18), none, [], false, .mv (.t 6)⟩,
  ⟨(some 19), none, [], false, .call 144 [(.t 18)]⟩,
  ⟨(some 8), none, [], false, .mv (.t 19)⟩]
def f134r4 : List I := [⟨(some 20), none, [], false, .mv (.t 1)⟩,
  ⟨(some 21), none, [], false, .mv (.t 6)⟩,
  ⟨(some 22), none, [], false, .bin .quo .other (.t 21) (.c (.int .i64 4))⟩,
  ⟨(some 23), none, [], false, .bin .mul .other (.t 22) (.c (.int .i64 2))⟩,
  ⟨(some 24), none, [], false, .bin .add .other (.t 20) (.t 23)⟩,
  ⟨(some 25), none, [], false, .bin .sub .other (.t 24) (.c (.int .i64 1))⟩,
  ⟨(some 9), none, [], false, .mv (.t 25)⟩]
def f134r5 : List I := [⟨(some 26), none, [], false, .mv (.t 9)⟩,
  ⟨(some 27), none, [], false, .mv (.t 1)⟩,
  ⟨(some 28), none, [], false, .mv (.t 6)⟩,
  ⟨(some 29), none, [], false, .bin .quo .other (.t 28) (.c (.int .i64 4))⟩,
  ⟨(some 30), none, [], false, .bin .mul .other (.t 29) (.c (.int .i64 2))⟩,
  ⟨(some 31), none, [], false, .bin .add .other (.t 27) (.t 30)⟩,
  ⟨(some 32), none, [], false, .bin .add .other (.t 31) (.c (.int .i64 1))⟩,
  ⟨(some 33), none, [], false, .bin .leq .other (.t 26) (.t 32)⟩]
def f134r6 : List I := [⟨(some 36), none, [], false, .call 145 [(.t 7)]⟩,
  ⟨(some 37), none, [], false, .mv (.t 8)⟩,
  ⟨(some 38), none, [], false, .bin .sub .other (.t 37) (.c (.int .u64 1))⟩,
  ⟨(some 39), none, [], false, .bin .and .other (.t 36) (.t 38)⟩,
  ⟨(some 40), none, [], false, .conv .i64 (.t 39)⟩,
  ⟨(some 10), none, [], false, .mv (.t 40)⟩]
def f134r7 : List I := [⟨(some 41), none, [], false, .mv (.t 10)⟩,
  ⟨(some 42), none, [], false, .mv (.t 6)⟩,
  ⟨(some 43), none, [], false, .bin .geq .other (.t 41) (.t 42)⟩]
def f134r8 : List I := [⟨(some 44), none, [], false, .mv (.t 10)⟩,
  ⟨(some 45), none, [], false, .mv (.t 6)⟩,
  ⟨(some 46), none, [], false, .bin .sub .other (.t 44) (.t 45)⟩,
  ⟨(some 10), none, [], false, .mv (.t 46)⟩]
def f134r9 : List I := [⟨(some 47), none, [], false, .mv (.t 0)⟩,
  ⟨(some 48), none, [], false, .mv (.t 9)⟩,
  ⟨(some 53), none, [], false, .mv (.t 0)⟩,
  ⟨(some 54), none, [], false, .mv (.t 1)⟩,
  ⟨(some 55), none, [], false, .mv (.t 10)⟩,
  ⟨(some 56), none, [], false, .bin .add .other (.t 54) (.t 55)⟩,
  ⟨(some 57), none, [], false, .iad 1 none (.t 53) (.t 56)⟩,
  ⟨(some 58), none, [], false, .ld false 1 (.t 57)⟩,
  ⟨(some 59), none, [], false, .mv (.t 0)⟩,
  ⟨(some 60), none, [], false, .mv (.t 9)⟩,
  ⟨(some 61), none, [], false, .iad 1 none (.t 59) (.t 60)⟩,
  ⟨(some 62), none, [], false, .ld false 1 (.t 61)⟩,
  ⟨(some 63), none, [], false, .iad 1 none (.t 47) (.t 48)⟩,
  ⟨none, none, [], false, .st 1 (.t 63) (.t 58)⟩,
  ⟨(some 49), none, [], false, .mv (.t 0)⟩,
  ⟨(some 50), none, [], false, .mv (.t 1)⟩,
  ⟨(some 51), none, [], false, .mv (.t 10)⟩,
  ⟨(some 52), none, [], false, .bin .add .other (.t 50) (.t 51)⟩,
  ⟨(some 64), none, [], false, .iad 1 none (.t 49) (.t 52)⟩,
  ⟨none, none, [], false, .st 1 (.t 64) (.t 62)⟩]
def f134r10 : List I := [⟨(some 34), none, [], false, .mv (.t 9)⟩,
  ⟨(some 35), none, [], false, .bin .add .other (.t 34) (.c (.int .i64 1))⟩,
  ⟨(some 9), none, [], false, .mv (.t 35)⟩]
def f134l0 : C := (.seq (.seq (.reg false f134r5) (.cond (.t 33) .skip (.exit 0))) (.seq (.block 1 (.seq (.reg false f134r6) (.seq (.seq (.reg false f134r7) (.cond (.t 43) (.reg false f134r8) .skip)) (.reg true f134r9)))) (.reg false f134r10)))
def f134 : Fn := ⟨[0, 1, 2, 6, 7, 8, 9, 10, 15, 33, 43], (.seq (.reg false f134r0) (.seq (.reg false f134r1) (.cond (.t 15) (.seq (.reg false f134r2) (.seq (.reg false f134r3) (.seq (.reg false f134r4) (.block 0 (.loop f134l0))))) .skip))), []⟩
/-! 135: slices.choosePivotOrdered[stolon/api.Addr] -/
def f135r0 : List I := [⟨(some 6), none, [], false, .mv (.c (.int .i64 0))⟩,
  ⟨(some 7), none, [], false, .mv (.c (.int .i64 0))⟩]
def f135r1 : List I := [⟨(some 13), none, [], false, .mv (.t 2)⟩,
  ⟨(some 14), none, [], false, .mv (.t 1)⟩,
  ⟨(some 15), none, [], false, .bin .sub .other (.t 13) (.t 14)⟩,
  ⟨(some 8), none, [], false, .mv (.t 15)⟩]
def f135r2 : List I := [⟨(some 9), none, [], false, .alloc [.int .i64 0]⟩]
def f135r3 : List I := [⟨(some 16), none, [], false, .mv (.t 1)⟩,
  ⟨(some 17), none, [], false, .mv (.t 8)⟩,
  ⟨(some 18), none, [], false, .bin .quo .other (.t 17) (.c (.int .i64 4))⟩,
  ⟨(some 19), none, [], false, .bin .mul .other (.t 18) (.c (.int .i64 1))⟩,
  ⟨(some 20), none, [], false, .bin .add .other (.t 16) (.t 19)⟩,
  ⟨(some 10), none, [], false, .mv (.t 20)⟩]
def f135r4 : List I := [⟨(some 21), none, [], false, .mv (.t 1)⟩,
  ⟨(some 22), none, [], false, .mv (.t 8)⟩,
  ⟨(some 23), none, [], false, .bin .quo .other (.t 22) (.c (.int .i64 4))⟩,
  ⟨(some 24), none, [], false, .bin .mul .other (.t 23) (.c (.int .i64 2))⟩,
  ⟨(some 25), none, [], false, .bin .add .other (.t 21) (.t 24)⟩,
  ⟨(some 11), none, [], false, .mv (.t 25)⟩]
def f135r5 : List I := [⟨(some 26), none, [], false, .mv (.t 1)⟩,
  ⟨(some 27), none, [], false, .mv (.t 8)⟩,
  ⟨(some 28), none, [], false, .bin .quo .other (.t 27) (.c (.int .i64 4))⟩,
  ⟨(some 29), none, [], false, .bin .mul .other (.t 28) (.c (.int .i64 3))⟩,
  ⟨(some 30), none, [], false, .bin .add .other (.t 26) (.t 29)⟩,
  ⟨(some 12), none, [], false, .mv (.t 30)⟩]
def f135r6 : List I := [⟨(some 31), none, [], false, .mv (.t 8)⟩,
  ⟨(some 32), none, [], false, .bin .geq .other (.t 31) (.c (.int .i64 8))⟩]
def f135r7 : List I := [⟨(some 33), none, [], false, .mv (.t 8)⟩,
  ⟨(some 34), none, [], false, .bin .geq .other (.t 33) (.c (.int .i64 50))⟩]
def f135r8 : List I := [⟨(some 35), none, [], false, .mv (.t 0)⟩,
  ⟨(some 36), none, [], false, .mv (.t 10)⟩,
  ⟨(some 37), none, [], false, .call 146 [(.t 35), (.t 36), (.t 9)]⟩,
  ⟨(some 10), none, [], false, .mv (.t 37)⟩]
def f135r9 : List I := [⟨(some 38), none, [], false, .mv (.t 0)⟩,
  ⟨(some 39), none, [], false, .mv (.t 11)⟩,
  ⟨(some 40), none, [], false, .call 146 [(.t 38), (.t 39), (.t 9)]⟩,
  ⟨(some 11), none, [], false, .mv (.t 40)⟩]
def f135r10 : List I := [⟨(some 41), none, [], false, .mv (.t 0)⟩,
  ⟨(some 42), none, [], false, .mv (.t 12)⟩,
  ⟨(some 43), none, [], false, .call 146 [(.t 41), (.t 42), (.t 9)]⟩,
  ⟨(some 12), none, [], false, .mv (.t 43)⟩]
def f135r11 : List I := [⟨(some 44), none, [], false, .mv (.t 0)⟩,
  ⟨(some 45), none, [], false, .mv (.t 10)⟩,
  ⟨(some 46), none, [], false, .mv (.t 11)⟩,
  ⟨(some 47), none, [], false, .mv (.t 12)⟩,
  ⟨(some 48), none, [], false, .call 147 [(.t 44), (.t 45), (.t 46), (.t 47), (.t 9)]⟩,
  ⟨(some 11), none, [], false, .mv (.t 48)⟩]
def f135r12 : List I := [⟨(some 49), none, [], false, .ld false 1 (.t 9)⟩]
def f135r13 : List I := [⟨(some 52), none, [], false, .bin .eql .other (.t 49) (.c (.int .i64 0))⟩,
  ⟨(some 51), none, [], false, .mv (.t 52)⟩]
def f135r14 : List I := [⟨(some 53), none, [], false, .mv (.t 11)⟩,
  ⟨(some 6), none, [], false, .mv (.t 53)⟩,
  ⟨(some 7), none, [], false, .mv (.c (.int .i64 1))⟩]
def f135r15 : List I := [⟨(some 55), none, [], false, .bin .eql .other (.t 49) (.c (.int .i64 12))⟩,
  ⟨(some 54), none, [], false, .mv (.t 55)⟩]
def f135r16 : List I := [⟨(some 56), none, [], false, .mv (.t 11)⟩,
  ⟨(some 6), none, [], false, .mv (.t 56)⟩,
  ⟨(some 7), none, [], false, .mv (.c (.int .i64 2))⟩]
def f135r17 : List I := [⟨(some 50), none, [], false, .mv (.t 11)⟩,
  ⟨(some 6), none, [], false, .mv (.t 50)⟩,
  ⟨(some 7), none, [], false, .mv (.c (.int .i64 0))⟩]
def f135 : Fn := ⟨[0, 1, 2, 6, 7, 8, 9, 10, 11, 12, 32, 34, 49, 51, 54], (.seq (.reg false f135r0) (.seq (.reg false f135r1) (.seq (.reg false f135r2) (.seq (.reg false f135r3) (.seq (.reg false f135r4) (.seq (.reg false f135r5) (.seq (.seq (.reg false f135r6) (.cond (.t 32) (.seq (.seq (.reg false f135r7) (.cond (.t 34) (.seq (.reg false f135r8) (.seq (.reg false f135r9) (.reg false f135r10))) .skip)) (.reg false f135r11)) .skip)) (.seq (.reg false f135r12) (.block 0 (.seq (.reg false f135r13) (.cond (.t 51) (.seq (.reg false f135r14) .ret) (.seq (.reg false f135r15) (.cond (.t 54) (.seq (.reg false f135r16) .ret) (.seq (.reg false f135r17) .ret)))))))))))))), [.tmp 6, .tmp 7]⟩
/-! 136: slices.reverseRangeOrdered[stolon/api.Addr] -/
def f136r0 : List I := [⟨(some 8), none, [], false, .mv (.t 1)⟩,
  ⟨(some 6), none, [], false, .mv (.t 8)⟩]
def f136r1 : List I := [⟨(some 9), none, [], false, .mv (.t 2)⟩,
  ⟨(some 10), none, [], false, .bin .sub .other (.t 9) (.c (.int .i64 1))⟩,
  ⟨(some 7), none, [], false, .mv (.t 10)⟩]
def f136r2 : List I := [⟨(some 11), none, [], false, .mv (.t 6)⟩,
  ⟨(some 12), none, [], false, .mv (.t 7)⟩,
  ⟨(some 13), none, [], false, .bin .lss .other (.t 11) (.t 12)⟩]
def f136r3 : List I := [⟨(some 14), none, [], false, .mv (.t 0)⟩,
  ⟨(some 15), none, [], false, .mv (.t 6)⟩,
  ⟨(some 18), none, [], false, .mv (.t 0)⟩,
  ⟨(some 19), none, [], false, .mv (.t 7)⟩,
  ⟨(some 20), none, [], false, .iad 1 none (.t 18) (.t 19)⟩,
  ⟨(some 21), none, [], false, .ld false 1 (.t 20)⟩,
  ⟨(some 22), none, [], false, .mv (.t 0)⟩,
  ⟨(some 23), none, [], false, .mv (.t 6)⟩,
  ⟨(some 24), none, [], false, .iad 1 none (.t 22) (.t 23)⟩,
  ⟨(some 25), none, [], false, .ld false 1 (.t 24)⟩,
  ⟨(some 26), none, [], false, .iad 1 none (.t 14) (.t 15)⟩,
  ⟨none, none, [], false, .st 1 (.t 26) (.t 21)⟩,
  ⟨(some 16), none, [], false, .mv (.t 0)⟩,
  ⟨(some 17), none, [], false, .mv (.t 7)⟩,
  ⟨(some 27), none, [], false, .iad 1 none (.t 16) (.t 17)⟩,
  ⟨none, none, [], false, .st 1 (.t 27) (.t 25)⟩]
def f136r4 : List I := [⟨(some 28), none, [], false, .mv (.t 6)⟩,
  ⟨(some 29), none, [], false, .bin .add .other (.t 28) (.c (.int .i64 1))⟩,
  ⟨(some 6), none, [], false, .mv (.t 29)⟩]
def f136r5 : List I := [⟨(some 30), none, [], false, .mv (.t 7)⟩,
  ⟨(some 31), none, [], false, .bin .sub .other (.t 30) (.c (.int .i64 1))⟩,
  ⟨(some 7), none, [], false, .mv (.t 31)⟩]
def f136l0 : C := (.seq (.seq (.reg false f136r2) (.cond (.t 13) .skip (.exit 0))) (.block 1 (.seq (.reg true f136r3) (.seq (.reg false f136r4) (.reg false f136r5)))))
def f136 : Fn := ⟨[0, 1, 2, 6, 7, 13], (.seq (.reg false f136r0) (.seq (.reg false f136r1) (.block 0 (.loop f136l0)))), []⟩
/-! 137: slices.partialInsertionSortOrdered[stolon/api.Addr] -/
def f137r0 : List I := [⟨(some 6), none, [], false, .mv (.c (.bool false))⟩]
def f137r1 : List I := [⟨(some 11), none, [], false, .mv (.t 1)⟩,
  ⟨(some 12), none, [], false, .bin .add .other (.t 11) (.c (.int .i64 1))⟩,
  ⟨(some 7), none, [], false, .mv (.t 12)⟩]
def f137r2 : List I := [⟨(some 8), none, [], false, .mv (.c (.int .i64 0))⟩]
def f137r3 : List I := [⟨(some 13), none, [], false, .mv (.t 8)⟩,
  ⟨(some 14), none, [], false, .bin .lss .other (.t 13) (.c (.int .i64 5))⟩]
def f137r4 : List I := [⟨(some 17), none, [], false, .mv (.t 7)⟩,
  ⟨(some 18), none, [], false, .mv (.t 2)⟩,
  ⟨(some 19), none, [], false, .bin .lss .other (.t 17) (.t 18)⟩,
  ⟨(some 20), none, [], false, .mv (.t 19)⟩,
  ⟨(some 21), (some (20, true)), [], false, .mv (.t 0)⟩,
  ⟨(some 22), (some (20, true)), [], false, .mv (.t 7)⟩,
  ⟨(some 23), (some (20, true)), [], false, .iad 1 none (.t 21) (.t 22)⟩,
  ⟨(some 24), (some (20, true)), [], false, .ld false 1 (.t 23)⟩,
  ⟨(some 25), (some (20, true)), [], false, .mv (.t 0)⟩,
  ⟨(some 26), (some (20, true)), [], false, .mv (.t 7)⟩,
  ⟨(some 27), (some (20, true)), [], false, .bin .sub .other (.t 26) (.c (.int .i64 1))⟩,
  ⟨(some 28), (some (20, true)), [], false, .iad 1 none (.t 25) (.t 27)⟩,
  ⟨(some 29), (some (20, true)), [], false, .ld false 1 (.t 28)⟩,
  ⟨(some 30), (some (20, true)), [], false, .call 129 [(.t 24), (.t 29)]⟩,
  ⟨(some 31), (some (20, true)), [], false, .un .not (.t 30)⟩,
  ⟨(some 32), none, [], false, .pick (.t 20) (.t 31) (.c (.bool false))⟩]
def f137r5 : List I := [⟨(some 33), none, [], false, .mv (.t 7)⟩,
  ⟨(some 34), none, [], false, .bin .add .other (.t 33) (.c (.int .i64 1))⟩,
  ⟨(some 7), none, [], false, .mv (.t 34)⟩]
def f137l0 : C := (.seq (.seq (.reg true f137r4) (.cond (.t 32) .skip (.exit 2))) (.block 3 (.reg false f137r5)))
def f137r6 : List I := [⟨(some 35), none, [], false, .mv (.t 7)⟩,
  ⟨(some 36), none, [], false, .mv (.t 2)⟩,
  ⟨(some 37), none, [], false, .bin .eql .other (.t 35) (.t 36)⟩]
def f137r7 : List I := [⟨(some 6), none, [], false, .mv (.c (.bool true))⟩]
def f137r8 : List I := [⟨(some 38), none, [], false, .mv (.t 2)⟩,
  ⟨(some 39), none, [], false, .mv (.t 1)⟩,
  ⟨(some 40), none, [], false, .bin .sub .other (.t 38) (.t 39)⟩,
  ⟨(some 41), none, [], false, .bin .lss .other (.t 40) (.c (.int .i64 50))⟩]
def f137r9 : List I := [⟨(some 6), none, [], false, .mv (.c (.bool false))⟩]
def f137r10 : List I := [⟨(some 42), none, [], false, .mv (.t 0)⟩,
  ⟨(some 43), none, [], false, .mv (.t 7)⟩,
  ⟨(some 47), none, [], false, .mv (.t 0)⟩,
  ⟨(some 48), none, [], false, .mv (.t 7)⟩,
  ⟨(some 49), none, [], false, .bin .sub .other (.t 48) (.c (.int .i64 1))⟩,
  ⟨(some 50), none, [], false, .iad 1 none (.t 47) (.t 49)⟩,
  ⟨(some 51), none, [], false, .ld false 1 (.t 50)⟩,
  ⟨(some 52), none, [], false, .mv (.t 0)⟩,
  ⟨(some 53), none, [], false, .mv (.t 7)⟩,
  ⟨(some 54), none, [], false, .iad 1 none (.t 52) (.t 53)⟩,
  ⟨(some 55), none, [], false, .ld false 1 (.t 54)⟩,
  ⟨(some 56), none, [], false, .iad 1 none (.t 42) (.t 43)⟩,
  ⟨none, none, [], false, .st 1 (.t 56) (.t 51)⟩,
  ⟨(some 44), none, [], false, .mv (.t 0)⟩,
  ⟨(some 45), none, [], false, .mv (.t 7)⟩,
  ⟨(some 46), none, [], false, .bin .sub .other (.t 45) (.c (.int .i64 1))⟩,
  ⟨(some 57), none, [], false, .iad 1 none (.t 44) (.t 46)⟩,
  ⟨none, none, [], false, .st 1 (.t 57) (.t 55)⟩]
def f137r11 : List I := [⟨(some 58), none, [], false, .mv (.t 7)⟩,
  ⟨(some 59), none, [], false, .mv (.t 1)⟩,
  ⟨(some 60), none, [], false, .bin .sub .other (.t 58) (.t 59)⟩,
  ⟨(some 61), none, [], false, .bin .geq .other (.t 60) (.c (.int .i64 2))⟩]
def f137r12 : List I := [⟨(some 62), none, [], false, .mv (.t 7)⟩,
  ⟨(some 63), none, [], false, .bin .sub .other (.t 62) (.c (.int .i64 1))⟩,
  ⟨(some 9), none, [], false, .mv (.t 63)⟩]
def f137r13 : List I := [⟨(some 64), none, [], false, .mv (.t 9)⟩,
  ⟨(some 65), none, [], false, .bin .geq .other (.t 64) (.c (.int .i64 1))⟩]
def f137r14 : List I := [⟨(some 68), none, [], false, .mv (.t 0)⟩,
  ⟨(some 69), none, [], false, .mv (.t 9)⟩,
  ⟨(some 70), none, [], false, .iad 1 none (.t 68) (.t 69)⟩,
  ⟨(some 71), none, [], false, .ld false 1 (.t 70)⟩,
  ⟨(some 72), none, [], false, .mv (.t 0)⟩,
  ⟨(some 73), none, [], false, .mv (.t 9)⟩,
  ⟨(some 74), none, [], false, .bin .sub .other (.t 73) (.c (.int .i64 1))⟩,
  ⟨(some 75), none, [], false, .iad 1 none (.t 72) (.t 74)⟩,
  ⟨(some 76), none, [], false, .ld false 1 (.t 75)⟩,
  ⟨(some 77), none, [], false, .call 129 [(.t 71), (.t 76)]⟩,
  ⟨(some 78), none, [], false, .un .not (.t 77)⟩]
def f137r15 : List I := [⟨(some 79), none, [], false, .mv (.t 0)⟩,
  ⟨(some 80), none, [], false, .mv (.t 9)⟩,
  ⟨(some 84), none, [], false, .mv (.t 0)⟩,
  ⟨(some 85), none, [], false, .mv (.t 9)⟩,
  ⟨(some 86), none, [], false, .bin .sub .other (.t 85) (.c (.int .i64 1))⟩,
  ⟨(some 87), none, [], false, .iad 1 none (.t 84) (.t 86)⟩,
  ⟨(some 88), none, [], false, .ld false 1 (.t 87)⟩,
  ⟨(some 89), none, [], false, .mv (.t 0)⟩,
  ⟨(some 90), none, [], false, .mv (.t 9)⟩,
  ⟨(some 91), none, [], false, .iad 1 none (.t 89) (.t 90)⟩,
  ⟨(some 92), none, [], false, .ld false 1 (.t 91)⟩,
  ⟨(some 93), none, [], false, .iad 1 none (.t 79) (.t 80)⟩,
  ⟨none, none, [], false, .st 1 (.t 93) (.t 88)⟩,
  ⟨(some 81), none, [], false, .mv (.t 0)⟩,
  ⟨(some 82), none, [], false, .mv (.t 9)⟩,
  ⟨(some 83), none, [], false, .bin .sub .other (.t 82) (.c (.int .i64 1))⟩,
  ⟨(some 94), none, [], false, .iad 1 none (.t 81) (.t 83)⟩,
  ⟨none, none, [], false, .st 1 (.t 94) (.t 92)⟩]
def f137r16 : List I := [⟨(some 66), none, [], false, .mv (.t 9)⟩,
  ⟨(some 67), none, [], false, .bin .sub .other (.t 66) (.c (.int .i64 1))⟩,
  ⟨(some 9), none, [], false, .mv (.t 67)⟩]
def f137l1 : C := (.seq (.seq (.reg false f137r13) (.cond (.t 65) .skip (.exit 4))) (.seq (.block 5 (.seq (.seq (.reg true f137r14) (.cond (.t 78) (.exit 4) .skip)) (.reg true f137r15))) (.reg false f137r16)))
def f137r17 : List I := [⟨(some 95), none, [], false, .mv (.t 2)⟩,
  ⟨(some 96), none, [], false, .mv (.t 7)⟩,
  ⟨(some 97), none, [], false, .bin .sub .other (.t 95) (.t 96)⟩,
  ⟨(some 98), none, [], false, .bin .geq .other (.t 97) (.c (.int .i64 2))⟩]
def f137r18 : List I := [⟨(some 99), none, [], false, .mv (.t 7)⟩,
  ⟨(some 100), none, [], false, .bin .add .other (.t 99) (.c (.int .i64 1))⟩,
  ⟨(some 10), none, [], false, .mv (.t 100)⟩]
def f137r19 : List I := [⟨(some 101), none, [], false, .mv (.t 10)⟩,
  ⟨(some 102), none, [], false, .mv (.t 2)⟩,
  ⟨(some 103), none, [], false, .bin .lss .other (.t 101) (.t 102)⟩]
def f137r20 : List I := [⟨(some 106), none, [], false, .mv (.t 0)⟩,
  ⟨(some 107), none, [], false, .mv (.t 10)⟩,
  ⟨(some 108), none, [], false, .iad 1 none (.t 106) (.t 107)⟩,
  ⟨(some 109), none, [], false, .ld false 1 (.t 108)⟩,
  ⟨(some 110), none, [], false, .mv (.t 0)⟩,
  ⟨(some 111), none, [], false, .mv (.t 10)⟩,
  ⟨(some 112), none, [], false, .bin .sub .other (.t 111) (.c (.int .i64 1))⟩,
  ⟨(some 113), none, [], false, .iad 1 none (.t 110) (.t 112)⟩,
  ⟨(some 114), none, [], false, .ld false 1 (.t 113)⟩,
  ⟨(some 115), none, [], false, .call 129 [(.t 109), (.t 114)]⟩,
  ⟨(some 116), none, [], false, .un .not (.t 115)⟩]
def f137r21 : List I := [⟨(some 117), none, [], false, .mv (.t 0)⟩,
  ⟨(some 118), none, [], false, .mv (.t 10)⟩,
  ⟨(some 122), none, [], false, .mv (.t 0)⟩,
  ⟨(some 123), none, [], false, .mv (.t 10)⟩,
  ⟨(some 124), none, [], false, .bin .sub .other (.t 123) (.c (.int .i64 1))⟩,
  ⟨(some 125), none, [], false, .iad 1 none (.t 122) (.t 124)⟩,
  ⟨(some 126), none, [], false, .ld false 1 (.t 125)⟩,
  ⟨(some 127), none, [], false, .mv (.t 0)⟩,
  ⟨(some 128), none, [], false, .mv (.t 10)⟩,
  ⟨(some 129), none, [], false, .iad 1 none (.t 127) (.t 128)⟩,
  ⟨(some 130), none, [], false, .ld false 1 (.t 129)⟩,
  ⟨(some 131), none, [], false, .iad 1 none (.t 117) (.t 118)⟩,
  ⟨none, none, [], false, .st 1 (.t 131) (.t 126)⟩,
  ⟨(some 119), none, [], false, .mv (.t 0)⟩,
  ⟨(some 120), none, [], false, .mv (.t 10)⟩,
  ⟨(some 121), none, [], false, .bin .sub .other (.t 120) (.c (.int .i64 1))⟩,
  ⟨(some 132), none, [], false, .iad 1 none (.t 119) (.t 121)⟩,
  ⟨none, none, [], false, .st 1 (.t 132) (.t 130)⟩]
def f137r22 : List I := [⟨(some 104), none, [], false, .mv (.t 10)⟩,
  ⟨(some 105), none, [], false, .bin .add .other (.t 104) (.c (.int .i64 1))⟩,
  ⟨(some 10), none, [], false, .mv (.t 105)⟩]
def f137l2 : C := (.seq (.seq (.reg false f137r19) (.cond (.t 103) .skip (.exit 6))) (.seq (.block 7 (.seq (.seq (.reg true f137r20) (.cond (.t 116) (.exit 6) .skip)) (.reg true f137r21))) (.reg false f137r22)))
def f137r23 : List I := [⟨(some 15), none, [], false, .mv (.t 8)⟩,
  ⟨(some 16), none, [], false, .bin .add .other (.t 15) (.c (.int .i64 1))⟩,
  ⟨(some 8), none, [], false, .mv (.t 16)⟩]
def f137l3 : C := (.seq (.seq (.reg false f137r3) (.cond (.t 14) .skip (.exit 0))) (.seq (.block 1 (.seq (.block 2 (.loop f137l0)) (.seq (.seq (.reg false f137r6) (.cond (.t 37) (.seq (.reg false f137r7) .ret) .skip)) (.seq (.seq (.reg false f137r8) (.cond (.t 41) (.seq (.reg false f137r9) .ret) .skip)) (.seq (.reg true f137r10) (.seq (.seq (.reg false f137r11) (.cond (.t 61) (.seq (.reg false f137r12) (.block 4 (.loop f137l1))) .skip)) (.seq (.reg false f137r17) (.cond (.t 98) (.seq (.reg false f137r18) (.block 6 (.loop f137l2))) .skip)))))))) (.reg false f137r23)))
def f137r24 : List I := [⟨(some 6), none, [], false, .mv (.c (.bool false))⟩]
def f137 : Fn := ⟨[0, 1, 2, 6, 7, 8, 9, 10, 14, 32, 37, 41, 61, 65, 78, 98, 103, 116], (.seq (.reg false f137r0) (.seq (.reg false f137r1) (.seq (.seq (.reg false f137r2) (.block 0 (.loop f137l3))) (.seq (.reg false f137r24) .ret)))), [.tmp 6]⟩
/-! 138: slices.partitionEqualOrdered[stolon/api.Addr] -/
def f138r0 : List I := [⟨(some 8), none, [], false, .mv (.c (.int .i64 0))⟩]
def f138r1 : List I := [⟨(some 11), none, [], false, .mv (.t 0)⟩,
  ⟨(some 12), none, [], false, .mv (.t 1)⟩,
  ⟨(some 15), none, [], false, .mv (.t 0)⟩,
  ⟨(some 16), none, [], false, .mv (.t 3)⟩,
  ⟨(some 17), none, [], false, .iad 1 none (.t 15) (.t 16)⟩,
  ⟨(some 18), none, [], false, .ld false 1 (.t 17)⟩,
  ⟨(some 19), none, [], false, .mv (.t 0)⟩,
  ⟨(some 20), none, [], false, .mv (.t 1)⟩,
  ⟨(some 21), none, [], false, .iad 1 none (.t 19) (.t 20)⟩,
  ⟨(some 22), none, [], false, .ld false 1 (.t 21)⟩,
  ⟨(some 23), none, [], false, .iad 1 none (.t 11) (.t 12)⟩,
  ⟨none, none, [], false, .st 1 (.t 23) (.t 18)⟩,
  ⟨(some 13), none, [], false, .mv (.t 0)⟩,
  ⟨(some 14), none, [], false, .mv (.t 3)⟩,
  ⟨(some 24), none, [], false, .iad 1 none (.t 13) (.t 14)⟩,
  ⟨none, none, [], false, .st 1 (.t 24) (.t 22)⟩]
def f138r2 : List I := [⟨(some 25), none, [], false, .mv (.t 1)⟩,
  ⟨(some 26), none, [], false, .bin .add .other (.t 25) (.c (.int .i64 1))⟩,
  ⟨(some 27), none, [], false, .mv (.t 2)⟩,
  ⟨(some 28), none, [], false, .bin .sub .other (.t 27) (.c (.int .i64 1))⟩,
  ⟨(some 9), none, [], false, .mv (.t 26)⟩,
  ⟨(some 10), none, [], false, .mv (.t 28)⟩]
def f138r3 : List I := [⟨(some 29), none, [], false, .mv (.t 9)⟩,
  ⟨(some 30), none, [], false, .mv (.t 10)⟩,
  ⟨(some 31), none, [], false, .bin .leq .other (.t 29) (.t 30)⟩,
  ⟨(some 32), none, [], false, .mv (.t 31)⟩,
  ⟨(some 33), (some (32, true)), [], false, .mv (.t 0)⟩,
  ⟨(some 34), (some (32, true)), [], false, .mv (.t 1)⟩,
  ⟨(some 35), (some (32, true)), [], false, .iad 1 none (.t 33) (.t 34)⟩,
  ⟨(some 36), (some (32, true)), [], false, .ld false 1 (.t 35)⟩,
  ⟨(some 37), (some (32, true)), [], false, .mv (.t 0)⟩,
  ⟨(some 38), (some (32, true)), [], false, .mv (.t 9)⟩,
  ⟨(some 39), (some (32, true)), [], false, .iad 1 none (.t 37) (.t 38)⟩,
  ⟨(some 40), (some (32, true)), [], false, .ld false 1 (.t 39)⟩,
  ⟨(some 41), (some (32, true)), [], false, .call 129 [(.t 36), (.t 40)]⟩,
  ⟨(some 42), (some (32, true)), [], false, .un .not (.t 41)⟩,
  ⟨(some 43), none, [], false, .pick (.t 32) (.t 42) (.c (.bool false))⟩]
def f138r4 : List I := [⟨(some 44), none, [], false, .mv (.t 9)⟩,
  ⟨(some 45), none, [], false, .bin .add .other (.t 44) (.c (.int .i64 1))⟩,
  ⟨(some 9), none, [], false, .mv (.t 45)⟩]
def f138l0 : C := (.seq (.seq (.reg true f138r3) (.cond (.t 43) .skip (.exit 2))) (.block 3 (.reg false f138r4)))
def f138r5 : List I := [⟨(some 46), none, [], false, .mv (.t 9)⟩,
  ⟨(some 47), none, [], false, .mv (.t 10)⟩,
  ⟨(some 48), none, [], false, .bin .leq .other (.t 46) (.t 47)⟩,
  ⟨(some 49), none, [], false, .mv (.t 48)⟩,
  ⟨(some 50), (some (49, true)), [], false, .mv (.t 0)⟩,
  ⟨(some 51), (some (49, true)), [], false, .mv (.t 1)⟩,
  ⟨(some 52), (some (49, true)), [], false, .iad 1 none (.t 50) (.t 51)⟩,
  ⟨(some 53), (some (49, true)), [], false, .ld false 1 (.t 52)⟩,
  ⟨(some 54), (some (49, true)), [], false, .mv (.t 0)⟩,
  ⟨(some 55), (some (49, true)), [], false, .mv (.t 10)⟩,
  ⟨(some 56), (some (49, true)), [], false, .iad 1 none (.t 54) (.t 55)⟩,
  ⟨(some 57), (some (49, true)), [], false, .ld false 1 (.t 56)⟩,
  ⟨(some 58), (some (49, true)), [], false, .call 129 [(.t 53), (.t 57)]⟩,
  ⟨(some 59), none, [], false, .pick (.t 49) (.t 58) (.c (.bool false))⟩]
def f138r6 : List I := [⟨(some 60), none, [], false, .mv (.t 10)⟩,
  ⟨(some 61), none, [], false, .bin .sub .other (.t 60) (.c (.int .i64 1))⟩,
  ⟨(some 10), none, [], false, .mv (.t 61)⟩]
def f138l1 : C := (.seq (.seq (.reg true f138r5) (.cond (.t 59) .skip (.exit 4))) (.block 5 (.reg false f138r6)))
def f138r7 : List I := [⟨(some 62), none, [], false, .mv (.t 9)⟩,
  ⟨(some 63), none, [], false, .mv (.t 10)⟩,
  ⟨(some 64), none, [], false, .bin .gtr .other (.t 62) (.t 63)⟩]
def f138r8 : List I := [⟨(some 65), none, [], false, .mv (.t 0)⟩,
  ⟨(some 66), none, [], false, .mv (.t 9)⟩,
  ⟨(some 69), none, [], false, .mv (.t 0)⟩,
  ⟨(some 70), none, [], false, .mv (.t 10)⟩,
  ⟨(some 71), none, [], false, .iad 1 none (.t 69) (.t 70)⟩,
  ⟨(some 72), none, [], false, .ld false 1 (.t 71)⟩,
  ⟨(some 73), none, [], false, .mv (.t 0)⟩,
  ⟨(some 74), none, [], false, .mv (.t 9)⟩,
  ⟨(some 75), none, [], false, .iad 1 none (.t 73) (.t 74)⟩,
  ⟨(some 76), none, [], false, .ld false 1 (.t 75)⟩,
  ⟨(some 77), none, [], false, .iad 1 none (.t 65) (.t 66)⟩,
  ⟨none, none, [], false, .st 1 (.t 77) (.t 72)⟩,
  ⟨(some 67), none, [], false, .mv (.t 0)⟩,
  ⟨(some 68), none, [], false, .mv (.t 10)⟩,
  ⟨(some 78), none, [], false, .iad 1 none (.t 67) (.t 68)⟩,
  ⟨none, none, [], false, .st 1 (.t 78) (.t 76)⟩]
def f138r9 : List I := [⟨(some 79), none, [], false, .mv (.t 9)⟩,
  ⟨(some 80), none, [], false, .bin .add .other (.t 79) (.c (.int .i64 1))⟩,
  ⟨(some 9), none, [], false, .mv (.t 80)⟩]
def f138r10 : List I := [⟨(some 81), none, [], false, .mv (.t 10)⟩,
  ⟨(some 82), none, [], false, .bin .sub .other (.t 81) (.c (.int .i64 1))⟩,
  ⟨(some 10), none, [], false, .mv (.t 82)⟩]
def f138l2 : C := (.block 1 (.seq (.block 2 (.loop f138l0)) (.seq (.block 4 (.loop f138l1)) (.seq (.seq (.reg false f138r7) (.cond (.t 64) (.exit 0) .skip)) (.seq (.reg true f138r8) (.seq (.reg false f138r9) (.reg false f138r10)))))))
def f138r11 : List I := [⟨(some 83), none, [], false, .mv (.t 9)⟩,
  ⟨(some 8), none, [], false, .mv (.t 83)⟩]
def f138 : Fn := ⟨[0, 1, 2, 3, 8, 9, 10, 43, 59, 64], (.seq (.reg false f138r0) (.seq (.reg true f138r1) (.seq (.reg false f138r2) (.seq (.block 0 (.loop f138l2)) (.seq (.reg false f138r11) .ret))))), [.tmp 8]⟩
/-! 139: slices.partitionOrdered[stolon/api.Addr] -/
def f139r0 : List I := [⟨(some 8), none, [], false, .mv (.c (.int .i64 0))⟩,
  ⟨(some 9), none, [], false, .mv (.c (.bool false))⟩]
def f139r1 : List I := [⟨(some 12), none, [], false, .mv (.t 0)⟩,
  ⟨(some 13), none, [], false, .mv (.t 1)⟩,
  ⟨(some 16), none, [], false, .mv (.t 0)⟩,
  ⟨(some 17), none, [], false, .mv (.t 3)⟩,
  ⟨(some 18), none, [], false, .iad 1 none (.t 16) (.t 17)⟩,
  ⟨(some 19), none, [], false, .ld false 1 (.t 18)⟩,
  ⟨(some 20), none, [], false, .mv (.t 0)⟩,
  ⟨(some 21), none, [], false, .mv (.t 1)⟩,
  ⟨(some 22), none, [], false, .iad 1 none (.t 20) (.t 21)⟩,
  ⟨(some 23), none, [], false, .ld false 1 (.t 22)⟩,
  ⟨(some 24), none, [], false, .iad 1 none (.t 12) (.t 13)⟩,
  ⟨none, none, [], false, .st 1 (.t 24) (.t 19)⟩,
  ⟨(some 14), none, [], false, .mv (.t 0)⟩,
  ⟨(some 15), none, [], false, .mv (.t 3)⟩,
  ⟨(some 25), none, [], false, .iad 1 none (.t 14) (.t 15)⟩,
  ⟨none, none, [], false, .st 1 (.t 25) (.t 23)⟩]
def f139r2 : List I := [⟨(some 26), none, [], false, .mv (.t 1)⟩,
  ⟨(some 27), none, [], false, .bin .add .other (.t 26) (.c (.int .i64 1))⟩,
  ⟨(some 28), none, [], false, .mv (.t 2)⟩,
  ⟨(some 29), none, [], false, .bin .sub .other (.t 28) (.c (.int .i64 1))⟩,
  ⟨(some 10), none, [], false, .mv (.t 27)⟩,
  ⟨(some 11), none, [], false, .mv (.t 29)⟩]
def f139r3 : List I := [⟨(some 30), none, [], false, .mv (.t 10)⟩,
  ⟨(some 31), none, [], false, .mv (.t 11)⟩,
  ⟨(some 32), none, [], false, .bin .leq .other (.t 30) (.t 31)⟩,
  ⟨(some 33), none, [], false, .mv (.t 32)⟩,
  ⟨(some 34), (some (33, true)), [], false, .mv (.t 0)⟩,
  ⟨(some 35), (some (33, true)), [], false, .mv (.t 10)⟩,
  ⟨(some 36), (some (33, true)), [], false, .iad 1 none (.t 34) (.t 35)⟩,
  ⟨(some 37), (some (33, true)), [], false, .ld false 1 (.t 36)⟩,
  ⟨(some 38), (some (33, true)), [], false, .mv (.t 0)⟩,
  ⟨(some 39), (some (33, true)), [], false, .mv (.t 1)⟩,
  ⟨(some 40), (some (33, true)), [], false, .iad 1 none (.t 38) (.t 39)⟩,
  ⟨(some 41), (some (33, true)), [], false, .ld false 1 (.t 40)⟩,
  ⟨(some 42), (some (33, true)), [], false, .call 129 [(.t 37), (.t 41)]⟩,
  ⟨(some 43), none, [], false, .pick (.t 33) (.t 42) (.c (.bool false))⟩]
def f139r4 : List I := [⟨(some 44), none, [], false, .mv (.t 10)⟩,
  ⟨(some 45), none, [], false, .bin .add .other (.t 44) (.c (.int .i64 1))⟩,
  ⟨(some 10), none, [], false, .mv (.t 45)⟩]
def f139l0 : C := (.seq (.seq (.reg true f139r3) (.cond (.t 43) .skip (.exit 0))) (.block 1 (.reg false f139r4)))
def f139r5 : List I := [⟨(some 46), none, [], false, .mv (.t 10)⟩,
  ⟨(some 47), none, [], false, .mv (.t 11)⟩,
  ⟨(some 48), none, [], false, .bin .leq .other (.t 46) (.t 47)⟩,
  ⟨(some 49), none, [], false, .mv (.t 48)⟩,
  ⟨(some 50), (some (49, true)), [], false, .mv (.t 0)⟩,
  ⟨(some 51), (some (49, true)), [], false, .mv (.t 11)⟩,
  ⟨(some 52), (some (49, true)), [], false, .iad 1 none (.t 50) (.t 51)⟩,
  ⟨(some 53), (some (49, true)), [], false, .ld false 1 (.t 52)⟩,
  ⟨(some 54), (some (49, true)), [], false, .mv (.t 0)⟩,
  ⟨(some 55), (some (49, true)), [], false, .mv (.t 1)⟩,
  ⟨(some 56), (some (49, true)), [], false, .iad 1 none (.t 54) (.t 55)⟩,
  ⟨(some 57), (some (49, true)), [], false, .ld false 1 (.t 56)⟩,
  ⟨(some 58), (some (49, true)), [], false, .call 129 [(.t 53), (.t 57)]⟩,
  ⟨(some 59), (some (49, true)), [], false, .un .not (.t 58)⟩,
  ⟨(some 60), none, [], false, .pick (.t 49) (.t 59) (.c (.bool false))⟩]
def f139r6 : List I := [⟨(some 61), none, [], false, .mv (.t 11)⟩,
  ⟨(some 62), none, [], false, .bin .sub .other (.t 61) (.c (.int .i64 1))⟩,
  ⟨(some 11), none, [], false, .mv (.t 62)⟩]
def f139l1 : C := (.seq (.seq (.reg true f139r5) (.cond (.t 60) .skip (.exit 2))) (.block 3 (.reg false f139r6)))
def f139r7 : List I := [⟨(some 63), none, [], false, .mv (.t 10)⟩,
  ⟨(some 64), none, [], false, .mv (.t 11)⟩,
  ⟨(some 65), none, [], false, .bin .gtr .other (.t 63) (.t 64)⟩]
def f139r8 : List I := [⟨(some 66), none, [], false, .mv (.t 0)⟩,
  ⟨(some 67), none, [], false, .mv (.t 11)⟩,
  ⟨(some 70), none, [], false, .mv (.t 0)⟩,
  ⟨(some 71), none, [], false, .mv (.t 1)⟩,
  ⟨(some 72), none, [], false, .iad 1 none (.t 70) (.t 71)⟩,
  ⟨(some 73), none, [], false, .ld false 1 (.t 72)⟩,
  ⟨(some 74), none, [], false, .mv (.t 0)⟩,
  ⟨(some 75), none, [], false, .mv (.t 11)⟩,
  ⟨(some 76), none, [], false, .iad 1 none (.t 74) (.t 75)⟩,
  ⟨(some 77), none, [], false, .ld false 1 (.t 76)⟩,
  ⟨(some 78), none, [], false, .iad 1 none (.t 66) (.t 67)⟩,
  ⟨none, none, [], false, .st 1 (.t 78) (.t 73)⟩,
  ⟨(some 68), none, [], false, .mv (.t 0)⟩,
  ⟨(some 69), none, [], false, .mv (.t 1)⟩,
  ⟨(some 79), none, [], false, .iad 1 none (.t 68) (.t 69)⟩,
  ⟨none, none, [], false, .st 1 (.t 79) (.t 77)⟩]
def f139r9 : List I := [⟨(some 80), none, [], false, .mv (.t 11)⟩,
  ⟨(some 8), none, [], false, .mv (.t 80)⟩,
  ⟨(some 9), none, [], false, .mv (.c (.bool true))⟩]
def f139r10 : List I := [⟨(some 81), none, [], false, .mv (.t 0)⟩,
  ⟨(some 82), none, [], false, .mv (.t 10)⟩,
  ⟨(some 85), none, [], false, .mv (.t 0)⟩,
  ⟨(some 86), none, [], false, .mv (.t 11)⟩,
  ⟨(some 87), none, [], false, .iad 1 none (.t 85) (.t 86)⟩,
  ⟨(some 88), none, [], false, .ld false 1 (.t 87)⟩,
  ⟨(some 89), none, [], false, .mv (.t 0)⟩,
  ⟨(some 90), none, [], false, .mv (.t 10)⟩,
  ⟨(some 91), none, [], false, .iad 1 none (.t 89) (.t 90)⟩,
  ⟨(some 92), none, [], false, .ld false 1 (.t 91)⟩,
  ⟨(some 93), none, [], false, .iad 1 none (.t 81) (.t 82)⟩,
  ⟨none, none, [], false, .st 1 (.t 93) (.t 88)⟩,
  ⟨(some 83), none, [], false, .mv (.t 0)⟩,
  ⟨(some 84), none, [], false, .mv (.t 11)⟩,
  ⟨(some 94), none, [], false, .iad 1 none (.t 83) (.t 84)⟩,
  ⟨none, none, [], false, .st 1 (.t 94) (.t 92)⟩]
def f139r11 : List I := [⟨(some 95), none, [], false, .mv (.t 10)⟩,
  ⟨(some 96), none, [], false, .bin .add .other (.t 95) (.c (.int .i64 1))⟩,
  ⟨(some 10), none, [], false, .mv (.t 96)⟩]
def f139r12 : List I := [⟨(some 97), none, [], false, .mv (.t 11)⟩,
  ⟨(some 98), none, [], false, .bin .sub .other (.t 97) (.c (.int .i64 1))⟩,
  ⟨(some 11), none, [], false, .mv (.t 98)⟩]
def f139r13 : List I := [⟨(some 99), none, [], false, .mv (.t 10)⟩,
  ⟨(some 100), none, [], false, .mv (.t 11)⟩,
  ⟨(some 101), none, [], false, .bin .leq .other (.t 99) (.t 100)⟩,
  ⟨(some 102), none, [], false, .mv (.t 101)⟩,
  ⟨(some 103), (some (102, true)), [], false, .mv (.t 0)⟩,
  ⟨(some 104), (some (102, true)), [], false, .mv (.t 10)⟩,
  ⟨(some 105), (some (102, true)), [], false, .iad 1 none (.t 103) (.t 104)⟩,
  ⟨(some 106), (some (102, true)), [], false, .ld false 1 (.t 105)⟩,
  ⟨(some 107), (some (102, true)), [], false, .mv (.t 0)⟩,
  ⟨(some 108), (some (102, true)), [], false, .mv (.t 1)⟩,
  ⟨(some 109), (some (102, true)), [], false, .iad 1 none (.t 107) (.t 108)⟩,
  ⟨(some 110), (some (102, true)), [], false, .ld false 1 (.t 109)⟩,
  ⟨(some 111), (some (102, true)), [], false, .call 129 [(.t 106), (.t 110)]⟩,
  ⟨(some 112), none, [], false, .pick (.t 102) (.t 111) (.c (.bool false))⟩]
def f139r14 : List I := [⟨(some 113), none, [], false, .mv (.t 10)⟩,
  ⟨(some 114), none, [], false, .bin .add .other (.t 113) (.c (.int .i64 1))⟩,
  ⟨(some 10), none, [], false, .mv (.t 114)⟩]
def f139l2 : C := (.seq (.seq (.reg true f139r13) (.cond (.t 112) .skip (.exit 6))) (.block 7 (.reg false f139r14)))
def f139r15 : List I := [⟨(some 115), none, [], false, .mv (.t 10)⟩,
  ⟨(some 116), none, [], false, .mv (.t 11)⟩,
  ⟨(some 117), none, [], false, .bin .leq .other (.t 115) (.t 116)⟩,
  ⟨(some 118), none, [], false, .mv (.t 117)⟩,
  ⟨(some 119), (some (118, true)), [], false, .mv (.t 0)⟩,
  ⟨(some 120), (some (118, true)), [], false, .mv (.t 11)⟩,
  ⟨(some 121), (some (118, true)), [], false, .iad 1 none (.t 119) (.t 120)⟩,
  ⟨(some 122), (some (118, true)), [], false, .ld false 1 (.t 121)⟩,
  ⟨(some 123), (some (118, true)), [], false, .mv (.t 0)⟩,
  ⟨(some 124), (some (118, true)), [], false, .mv (.t 1)⟩,
  ⟨(some 125), (some (118, true)), [], false, .iad 1 none (.t 123) (.t 124)⟩,
  ⟨(some 126), (some (118, true)), [], false, .ld false 1 (.t 125)⟩,
  ⟨(some 127), (some (118, true)), [], false, .call 129 [(.t 122), (.t 126)]⟩,
  ⟨(some 128), (some (118, true)), [], false, .un .not (.t 127)⟩,
  ⟨(some 129), none, [], false, .pick (.t 118) (.t 128) (.c (.bool false))⟩]
def f139r16 : List I := [⟨(some 130), none, [], false, .mv (.t 11)⟩,
  ⟨(some 131), none, [], false, .bin .sub .other (.t 130) (.c (.int .i64 1))⟩,
  ⟨(some 11), none, [], false, .mv (.t 131)⟩]
def f139l3 : C := (.seq (.seq (.reg true f139r15) (.cond (.t 129) .skip (.exit 8))) (.block 9 (.reg false f139r16)))
def f139r17 : List I := [⟨(some 132), none, [], false, .mv (.t 10)⟩,
  ⟨(some 133), none, [], false, .mv (.t 11)⟩,
  ⟨(some 134), none, [], false, .bin .gtr .other (.t 132) (.t 133)⟩]
def f139r18 : List I := [⟨(some 135), none, [], false, .mv (.t 0)⟩,
  ⟨(some 136), none, [], false, .mv (.t 10)⟩,
  ⟨(some 139), none, [], false, .mv (.t 0)⟩,
  ⟨(some 140), none, [], false, .mv (.t 11)⟩,
  ⟨(some 141), none, [], false, .iad 1 none (.t 139) (.t 140)⟩,
  ⟨(some 142), none, [], false, .ld false 1 (.t 141)⟩,
  ⟨(some 143), none, [], false, .mv (.t 0)⟩,
  ⟨(some 144), none, [], false, .mv (.t 10)⟩,
  ⟨(some 145), none, [], false, .iad 1 none (.t 143) (.t 144)⟩,
  ⟨(some 146), none, [], false, .ld false 1 (.t 145)⟩,
  ⟨(some 147), none, [], false, .iad 1 none (.t 135) (.t 136)⟩,
  ⟨none, none, [], false, .st 1 (.t 147) (.t 142)⟩,
  ⟨(some 137), none, [], false, .mv (.t 0)⟩,
  ⟨(some 138), none, [], false, .mv (.t 11)⟩,
  ⟨(some 148), none, [], false, .iad 1 none (.t 137) (.t 138)⟩,
  ⟨none, none, [], false, .st 1 (.t 148) (.t 146)⟩]
def f139r19 : List I := [⟨(some 149), none, [], false, .mv (.t 10)⟩,
  ⟨(some 150), none, [], false, .bin .add .other (.t 149) (.c (.int .i64 1))⟩,
  ⟨(some 10), none, [], false, .mv (.t 150)⟩]
def f139r20 : List I := [⟨(some 151), none, [], false, .mv (.t 11)⟩,
  ⟨(some 152), none, [], false, .bin .sub .other (.t 151) (.c (.int .i64 1))⟩,
  ⟨(some 11), none, [], false, .mv (.t 152)⟩]
def f139l4 : C := (.block 5 (.seq (.block 6 (.loop f139l2)) (.seq (.block 8 (.loop f139l3)) (.seq (.seq (.reg false f139r17) (.cond (.t 134) (.exit 4) .skip)) (.seq (.reg true f139r18) (.seq (.reg false f139r19) (.reg false f139r20)))))))
def f139r21 : List I := [⟨(some 153), none, [], false, .mv (.t 0)⟩,
  ⟨(some 154), none, [], false, .mv (.t 11)⟩,
  ⟨(some 157), none, [], false, .mv (.t 0)⟩,
  ⟨(some 158), none, [], false, .mv (.t 1)⟩,
  ⟨(some 159), none, [], false, .iad 1 none (.t 157) (.t 158)⟩,
  ⟨(some 160), none, [], false, .ld false 1 (.t 159)⟩,
  ⟨(some 161), none, [], false, .mv (.t 0)⟩,
  ⟨(some 162), none, [], false, .mv (.t 11)⟩,
  ⟨(some 163), none, [], false, .iad 1 none (.t 161) (.t 162)⟩,
  ⟨(some 164), none, [], false, .ld false 1 (.t 163)⟩,
  ⟨(some 165), none, [], false, .iad 1 none (.t 153) (.t 154)⟩,
  ⟨none, none, [], false, .st 1 (.t 165) (.t 160)⟩,
  ⟨(some 155), none, [], false, .mv (.t 0)⟩,
  ⟨(some 156), none, [], false, .mv (.t 1)⟩,
  ⟨(some 166), none, [], false, .iad 1 none (.t 155) (.t 156)⟩,
  ⟨none, none, [], false, .st 1 (.t 166) (.t 164)⟩]
def f139r22 : List I := [⟨(some 167), none, [], false, .mv (.t 11)⟩,
  ⟨(some 8), none, [], false, .mv (.t 167)⟩,
  ⟨(some 9), none, [], false, .mv (.c (.bool false))⟩]
def f139 : Fn := ⟨[0, 1, 2, 3, 8, 9, 10, 11, 43, 60, 65, 112, 129, 134], (.seq (.reg false f139r0) (.seq (.reg true f139r1) (.seq (.reg false f139r2) (.seq (.block 0 (.loop f139l0)) (.seq (.block 2 (.loop f139l1)) (.seq (.seq (.reg false f139r7) (.cond (.t 65) (.seq (.reg true f139r8) (.seq (.reg false f139r9) .ret)) .skip)) (.seq (.reg true f139r10) (.seq (.reg false f139r11) (.seq (.reg false f139r12) (.seq (.block 4 (.loop f139l4)) (.seq (.reg true f139r21) (.seq (.reg false f139r22) .ret)))))))))))), [.tmp 8, .tmp 9]⟩
/-! 140: math/bits.Len32 -/
def f140r0 : List I := [⟨(some 2), none, [], false, .mv (.c (.int .i64 0))⟩]
def f140r1 : List I := [⟨(some 3), none, [], false, .mv (.t 0)⟩,
  ⟨(some 4), none, [], false, .bin .geq .other (.t 3) (.c (.int .u32 65536))⟩]
def f140r2 : List I := [⟨(some 5), none, [], false, .mv (.t 0)⟩,
  ⟨(some 6), none, [], false, .bin .shr .other (.t 5) (.c (.int .u64 16))⟩,
  ⟨(some 0), none, [], false, .mv (.t 6)⟩]
def f140r3 : List I := [⟨(some 2), none, [], false, .mv (.c (.int .i64 16))⟩]
def f140r4 : List I := [⟨(some 7), none, [], false, .mv (.t 0)⟩,
  ⟨(some 8), none, [], false, .bin .geq .other (.t 7) (.c (.int .u32 256))⟩]
def f140r5 : List I := [⟨(some 9), none, [], false, .mv (.t 0)⟩,
  ⟨(some 10), none, [], false, .bin .shr .other (.t 9) (.c (.int .u64 8))⟩,
  ⟨(some 0), none, [], false, .mv (.t 10)⟩]
def f140r6 : List I := [⟨(some 11), none, [], false, .mv (.t 2)⟩,
  ⟨(some 12), none, [], false, .bin .add .other (.t 11) (.c (.int .i64 8))⟩,
  ⟨(some 2), none, [], false, .mv (.t 12)⟩]
def f140r7 : List I := [⟨(some 13), none, [], false, .mv (.t 2)⟩,
  ⟨(some 14), none, [], false, .mv (.t 0)⟩,
  ⟨(some 15), none, [], false, .conv .u8 (.t 14)⟩,
  ⟨(some 16), none, [], false, .tab [0, 1, 2, 2, 3, 3, 3, 3, 4, 4, 4, 4, 4, 4, 4, 4, 5, 5, 5, 5, 5, 5, 5, 5, 5, 5, 5, 5, 5, 5, 5, 5, 6, 6, 6, 6, 6, 6, 6, 6, 6, 6, 6, 6, 6, 6, 6, 6, 6, 6, 6, 6, 6, 6, 6, 6, 6, 6, 6, 6, 6, 6, 6, 6, 7, 7, 7, 7, 7, 7, 7, 7, 7, 7, 7, 7, 7, 7, 7, 7, 7, 7, 7, 7, 7, 7, 7, 7, 7, 7, 7, 7, 7, 7, 7, 7, 7, 7, 7, 7, 7, 7, 7, 7, 7, 7, 7, 7, 7, 7, 7, 7, 7, 7, 7, 7, 7, 7, 7, 7, 7, 7, 7, 7, 7, 7, 7, 7, 8, 8, 8, 8, 8, 8, 8, 8, 8, 8, 8, 8, 8, 8, 8, 8, 8, 8, 8, 8, 8, 8, 8, 8, 8, 8, 8, 8, 8, 8, 8, 8, 8, 8, 8, 8, 8, 8, 8, 8, 8, 8, 8, 8, 8, 8, 8, 8, 8, 8, 8, 8, 8, 8, 8, 8, 8, 8, 8, 8, 8, 8, 8, 8, 8, 8, 8, 8, 8, 8, 8, 8, 8, 8, 8, 8, 8, 8, 8, 8, 8, 8, 8, 8, 8, 8, 8, 8, 8, 8, 8, 8, 8, 8, 8, 8, 8, 8, 8, 8, 8, 8, 8, 8, 8, 8, 8, 8, 8, 8, 8, 8, 8, 8, 8, 8, 8, 8, 8, 8, 8, 8, 8, 8, 8, 8, 8, 8] (.t 15)⟩,
  ⟨(some 17), none, [], false, .conv .i64 (.t 16)⟩,
  ⟨(some 18), none, [], false, .bin .add .other (.t 13) (.t 17)⟩,
  ⟨(some 2), none, [], false, .mv (.t 18)⟩]
def f140 : Fn := ⟨[0, 2, 4, 8], (.seq (.reg false f140r0) (.seq (.seq (.reg false f140r1) (.cond (.t 4) (.seq (.reg false f140r2) (.reg false f140r3)) .skip)) (.seq (.seq (.reg false f140r4) (.cond (.t 8) (.seq (.reg false f140r5) (.reg false f140r6)) .skip)) (.seq (.reg false f140r7) .ret)))), [.tmp 2]⟩
/-! 141: math/bits.Len64 -/
def f141r0 : List I := [⟨(some 2), none, [], false, .mv (.c (.int .i64 0))⟩]
def f141r1 : List I := [⟨(some 3), none, [], false, .mv (.t 0)⟩,
  ⟨(some 4), none, [], false, .bin .geq .other (.t 3) (.c (.int .u64 4294967296))⟩]
def f141r2 : List I := [⟨(some 5), none, [], false, .mv (.t 0)⟩,
  ⟨(some 6), none, [], false, .bin .shr .other (.t 5) (.c (.int .u64 32))⟩,
  ⟨(some 0), none, [], false, .mv (.t 6)⟩]
def f141r3 : List I := [⟨(some 2), none, [], false, .mv (.c (.int .i64 32))⟩]
def f141r4 : List I := [⟨(some 7), none, [], false, .mv (.t 0)⟩,
  ⟨(some 8), none, [], false, .bin .geq .other (.t 7) (.c (.int .u64 65536))⟩]
def f141r5 : List I := [⟨(some 9), none, [], false, .mv (.t 0)⟩,
  ⟨(some 10), none, [], false, .bin .shr .other (.t 9) (.c (.int .u64 16))⟩,
  ⟨(some 0), none, [], false, .mv (.t 10)⟩]
def f141r6 : List I := [⟨(some 11), none, [], false, .mv (.t 2)⟩,
  ⟨(some 12), none, [], false, .bin .add .other (.t 11) (.c (.int .i64 16))⟩,
  ⟨(some 2), none, [], false, .mv (.t 12)⟩]
def f141r7 : List I := [⟨(some 13), none, [], false, .mv (.t 0)⟩,
  ⟨(some 14), none, [], false, .bin .geq .other (.t 13) (.c (.int .u64 256))⟩]
def f141r8 : List I := [⟨(some 15), none, [], false, .mv (.t 0)⟩,
  ⟨(some 16), none, [], false, .bin .shr .other (.t 15) (.c (.int .u64 8))⟩,
  ⟨(some 0), none, [], false, .mv (.t 16)⟩]
def f141r9 : List I := [⟨(some 17), none, [], false, .mv (.t 2)⟩,
  ⟨(some 18), none, [], false, .bin .add .other (.t 17) (.c (.int .i64 8))⟩,
  ⟨(some 2), none, [], false, .mv (.t 18)⟩]
def f141r10 : List I := [⟨(some 19), none, [], false, .mv (.t 2)⟩,
  ⟨(some 20), none, [], false, .mv (.t 0)⟩,
  ⟨(some 21), none, [], false, .conv .u8 (.t 20)⟩,
  ⟨(some 22), none, [], false, .tab [0, 1, 2, 2, 3, 3, 3, 3, 4, 4, 4, 4, 4, 4, 4, 4, 5, 5, 5, 5, 5, 5, 5, 5, 5, 5, 5, 5, 5, 5, 5, 5, 6, 6, 6, 6, 6, 6, 6, 6, 6, 6, 6, 6, 6, 6, 6, 6, 6, 6, 6, 6, 6, 6, 6, 6, 6, 6, 6, 6, 6, 6, 6, 6, 7, 7, 7, 7, 7, 7, 7, 7, 7, 7, 7, 7, 7, 7, 7, 7, 7, 7, 7, 7, 7, 7, 7, 7, 7, 7, 7, 7, 7, 7, 7, 7, 7, 7, 7, 7, 7, 7, 7, 7, 7, 7, 7, 7, 7, 7, 7, 7, 7, 7, 7, 7, 7, 7, 7, 7, 7, 7, 7, 7, 7, 7, 7, 7, 8, 8, 8, 8, 8, 8, 8, 8, 8, 8, 8, 8, 8, 8, 8, 8, 8, 8, 8, 8, 8, 8, 8, 8, 8, 8, 8, 8, 8, 8, 8, 8, 8, 8, 8, 8, 8, 8, 8, 8, 8, 8, 8, 8, 8, 8, 8, 8, 8, 8, 8, 8, 8, 8, 8, 8, 8, 8, 8, 8, 8, 8, 8, 8, 8, 8, 8, 8, 8, 8, 8, 8, 8, 8, 8, 8, 8, 8, 8, 8, 8, 8, 8, 8, 8, 8, 8, 8, 8, 8, 8, 8, 8, 8, 8, 8, 8, 8, 8, 8, 8, 8, 8, 8, 8, 8, 8, 8, 8, 8, 8, 8, 8, 8, 8, 8, 8, 8, 8, 8, 8, 8, 8, 8, 8, 8, 8, 8] (.t 21)⟩,
  ⟨(some 23), none, [], false, .conv .i64 (.t 22)⟩,
  ⟨(some 24), none, [], false, .bin .add .other (.t 19) (.t 23)⟩,
  ⟨(some 2), none, [], false, .mv (.t 24)⟩]
def f141 : Fn := ⟨[0, 2, 4, 8, 14], (.seq (.reg false f141r0) (.seq (.seq (.reg false f141r1) (.cond (.t 4) (.seq (.reg false f141r2) (.reg false f141r3)) .skip)) (.seq (.seq (.reg false f141r4) (.cond (.t 8) (.seq (.reg false f141r5) (.reg false f141r6)) .skip)) (.seq (.seq (.reg false f141r7) (.cond (.t 14) (.seq (.reg false f141r8) (.reg false f141r9)) .skip)) (.seq (.reg false f141r10) .ret))))), [.tmp 2]⟩
/-! 142: slices.Reverse[[]stolon/api.Held,stolon/api.Held] -/
def f142r0 : List I := [⟨(some 4), none, [], false, .mv (.t 0)⟩,
  ⟨(some 5), none, [], false, .len (.t 4)⟩,
  ⟨(some 6), none, [], false, .bin .sub .other (.t 5) (.c (.int .i64 1))⟩,
  ⟨(some 2), none, [], false, .mv (.c (.int .i64 0))⟩,
  ⟨(some 3), none, [], false, .mv (.t 6)⟩]
def f142r1 : List I := [⟨(some 7), none, [], false, .mv (.t 2)⟩,
  ⟨(some 8), none, [], false, .mv (.t 3)⟩,
  ⟨(some 9), none, [], false, .bin .lss .other (.t 7) (.t 8)⟩]
def f142r2 : List I := [⟨(some 14), none, [], false, .mv (.t 0)⟩,
  ⟨(some 15), none, [], false, .mv (.t 2)⟩,
  ⟨(some 18), none, [], false, .mv (.t 0)⟩,
  ⟨(some 19), none, [], false, .mv (.t 3)⟩,
  ⟨(some 20), none, [], false, .iad 2 none (.t 18) (.t 19)⟩,
  ⟨(some 21), none, [], false, .ld true 2 (.t 20)⟩,
  ⟨(some 22), none, [], false, .mv (.t 0)⟩,
  ⟨(some 23), none, [], false, .mv (.t 2)⟩,
  ⟨(some 24), none, [], false, .iad 2 none (.t 22) (.t 23)⟩,
  ⟨(some 25), none, [], false, .ld true 2 (.t 24)⟩,
  ⟨(some 26), none, [], false, .iad 2 none (.t 14) (.t 15)⟩,
  ⟨none, none, [], false, .st 2 (.t 26) (.t 21)⟩,
  ⟨(some 16), none, [], false, .mv (.t 0)⟩,
  ⟨(some 17), none, [], false, .mv (.t 3)⟩,
  ⟨(some 27), none, [], false, .iad 2 none (.t 16) (.t 17)⟩,
  ⟨none, none, [], false, .st 2 (.t 27) (.t 25)⟩]
def f142r3 : List I := [⟨(some 10), none, [], false, .mv (.t 2)⟩,
  ⟨(some 11), none, [], false, .bin .add .other (.t 10) (.c (.int .i64 1))⟩,
  ⟨(some 12), none, [], false, .mv (.t 3)⟩,
  ⟨(some 13), none, [], false, .bin .sub .other (.t 12) (.c (.int .i64 1))⟩,
  ⟨(some 2), none, [], false, .mv (.t 11)⟩,
  ⟨(some 3), none, [], false, .mv (.t 13)⟩]
def f142l0 : C := (.seq (.seq (.reg false f142r1) (.cond (.t 9) .skip (.exit 0))) (.seq (.block 1 (.reg true f142r2)) (.reg false f142r3)))
def f142 : Fn := ⟨[0, 2, 3, 9], (.seq (.reg false f142r0) (.block 0 (.loop f142l0))), []⟩
/-! 143: slices.siftDownOrdered[stolon/api.Addr] -/
def f143r0 : List I := [⟨(some 10), none, [], false, .mv (.t 1)⟩,
  ⟨(some 8), none, [], false, .mv (.t 10)⟩]
def f143r1 : List I := [⟨(some 11), none, [], false, .mv (.t 8)⟩,
  ⟨(some 12), none, [], false, .bin .mul .other (.c (.int .i64 2)) (.t 11)⟩,
  ⟨(some 13), none, [], false, .bin .add .other (.t 12) (.c (.int .i64 1))⟩,
  ⟨(some 9), none, [], false, .mv (.t 13)⟩]
def f143r2 : List I := [⟨(some 14), none, [], false, .mv (.t 9)⟩,
  ⟨(some 15), none, [], false, .mv (.t 2)⟩,
  ⟨(some 16), none, [], false, .bin .geq .other (.t 14) (.t 15)⟩]
def f143r3 : List I := [⟨(some 17), none, [], false, .mv (.t 9)⟩,
  ⟨(some 18), none, [], false, .bin .add .other (.t 17) (.c (.int .i64 1))⟩,
  ⟨(some 19), none, [], false, .mv (.t 2)⟩,
  ⟨(some 20), none, [], false, .bin .lss .other (.t 18) (.t 19)⟩,
  ⟨(some 21), none, [], false, .mv (.t 20)⟩,
  ⟨(some 22), (some (21, true)), [], false, .mv (.t 0)⟩,
  ⟨(some 23), (some (21, true)), [], false, .mv (.t 3)⟩,
  ⟨(some 24), (some (21, true)), [], false, .mv (.t 9)⟩,
  ⟨(some 25), (some (21, true)), [], false, .bin .add .other (.t 23) (.t 24)⟩,
  ⟨(some 26), (some (21, true)), [], false, .iad 1 none (.t 22) (.t 25)⟩,
  ⟨(some 27), (some (21, true)), [], false, .ld false 1 (.t 26)⟩,
  ⟨(some 28), (some (21, true)), [], false, .mv (.t 0)⟩,
  ⟨(some 29), (some (21, true)), [], false, .mv (.t 3)⟩,
  ⟨(some 30), (some (21, true)), [], false, .mv (.t 9)⟩,
  ⟨(some 31), (some (21, true)), [], false, .bin .add .other (.t 29) (.t 30)⟩,
  ⟨(some 32), (some (21, true)), [], false, .bin .add .other (.t 31) (.c (.int .i64 1))⟩,
  ⟨(some 33), (some (21, true)), [], false, .iad 1 none (.t 28) (.t 32)⟩,
  ⟨(some 34), (some (21, true)), [], false, .ld false 1 (.t 33)⟩,
  ⟨(some 35), (some (21, true)), [], false, .call 129 [(.t 27), (.t 34)]⟩,
  ⟨(some 36), none, [], false, .pick (.t 21) (.t 35) (.c (.bool false))⟩]
def f143r4 : List I := [⟨(some 37), none, [], false, .mv (.t 9)⟩,
  ⟨(some 38), none, [], false, .bin .add .other (.t 37) (.c (.int .i64 1))⟩,
  ⟨(some 9), none, [], false, .mv (.t 38)⟩]
def f143r5 : List I := [⟨(some 39), none, [], false, .mv (.t 0)⟩,
  ⟨(some 40), none, [], false, .mv (.t 3)⟩,
  ⟨(some 41), none, [], false, .mv (.t 8)⟩,
  ⟨(some 42), none, [], false, .bin .add .other (.t 40) (.t 41)⟩,
  ⟨(some 43), none, [], false, .iad 1 none (.t 39) (.t 42)⟩,
  ⟨(some 44), none, [], false, .ld false 1 (.t 43)⟩,
  ⟨(some 45), none, [], false, .mv (.t 0)⟩,
  ⟨(some 46), none, [], false, .mv (.t 3)⟩,
  ⟨(some 47), none, [], false, .mv (.t 9)⟩,
  ⟨(some 48), none, [], false, .bin .add .other (.t 46) (.t 47)⟩,
  ⟨(some 49), none, [], false, .iad 1 none (.t 45) (.t 48)⟩,
  ⟨(some 50), none, [], false, .ld false 1 (.t 49)⟩,
  ⟨(some 51), none, [], false, .call 129 [(.t 44), (.t 50)]⟩,
  ⟨(some 52), none, [], false, .un .not (.t 51)⟩]
def f143r6 : List I := [⟨(some 53), none, [], false, .mv (.t 0)⟩,
  ⟨(some 54), none, [], false, .mv (.t 3)⟩,
  ⟨(some 55), none, [], false, .mv (.t 8)⟩,
  ⟨(some 56), none, [], false, .bin .add .other (.t 54) (.t 55)⟩,
  ⟨(some 61), none, [], false, .mv (.t 0)⟩,
  ⟨(some 62), none, [], false, .mv (.t 3)⟩,
  ⟨(some 63), none, [], false, .mv (.t 9)⟩,
  ⟨(some 64), none, [], false, .bin .add .other (.t 62) (.t 63)⟩,
  ⟨(some 65), none, [], false, .iad 1 none (.t 61) (.t 64)⟩,
  ⟨(some 66), none, [], false, .ld false 1 (.t 65)⟩,
  ⟨(some 67), none, [], false, .mv (.t 0)⟩,
  ⟨(some 68), none, [], false, .mv (.t 3)⟩,
  ⟨(some 69), none, [], false, .mv (.t 8)⟩,
  ⟨(some 70), none, [], false, .bin .add .other (.t 68) (.t 69)⟩,
  ⟨(some 71), none, [], false, .iad 1 none (.t 67) (.t 70)⟩,
  ⟨(some 72), none, [], false, .ld false 1 (.t 71)⟩,
  ⟨(some 73), none, [], false, .iad 1 none (.t 53) (.t 56)⟩,
  ⟨none, none, [], false, .st 1 (.t 73) (.t 66)⟩,
  ⟨(some 57), none, [], false, .mv (.t 0)⟩,
  ⟨(some 58), none, [], false, .mv (.t 3)⟩,
  ⟨(some 59), none, [], false, .mv (.t 9)⟩,
  ⟨(some 60), none, [], false, .bin .add .other (.t 58) (.t 59)⟩,
  ⟨(some 74), none, [], false, .iad 1 none (.t 57) (.t 60)⟩,
  ⟨none, none, [], false, .st 1 (.t 74) (.t 72)⟩]
def f143r7 : List I := [⟨(some 75), none, [], false, .mv (.t 9)⟩,
  ⟨(some 8), none, [], false, .mv (.t 75)⟩]
def f143l0 : C := (.block 1 (.seq (.reg false f143r1) (.seq (.seq (.reg false f143r2) (.cond (.t 16) (.exit 0) .skip)) (.seq (.seq (.reg true f143r3) (.cond (.t 36) (.reg false f143r4) .skip)) (.seq (.seq (.reg true f143r5) (.cond (.t 52) .ret .skip)) (.seq (.reg true f143r6) (.reg false f143r7)))))))
def f143 : Fn := ⟨[0, 1, 2, 3, 8, 9, 16, 36, 52], (.seq (.reg false f143r0) (.block 0 (.loop f143l0))), []⟩
/-! 144: slices.nextPowerOfTwo -/
def f144r0 : List I := [⟨(some 2), none, [], false, .mv (.c (.int .u64 0))⟩]
def f144r1 : List I := [⟨(some 3), none, [], false, .mv (.t 0)⟩,
  ⟨(some 4), none, [], false, .conv .u64 (.t 3)⟩,
  ⟨(some 5), none, [], false, .call 126 [(.t 4)]⟩,
  ⟨(some 6), none, [], false, .bin .shl .other (.c (.int .u64 1)) (.t 5)⟩,
  ⟨(some 2), none, [], false, .mv (.t 6)⟩]
def f144 : Fn := ⟨[0, 2], (.seq (.reg false f144r0) (.seq (.reg false f144r1) .ret)), [.tmp 2]⟩
/-! 145: (*slices.xorshift).Next -/
def f145r0 : List I := [⟨(some 2), none, [], false, .mv (.c (.int .u64 0))⟩]
def f145r1 : List I := [⟨(some 3), none, [], false, .mv (.t 0)⟩,
  ⟨(some 4), none, [], false, .nck (.t 3)⟩,
  ⟨(some 5), none, [], false, .ld false 1 (.t 4)⟩,
  ⟨(some 6), none, [], false, .mv (.t 0)⟩,
  ⟨(some 7), none, [], false, .nck (.t 6)⟩,
  ⟨(some 8), none, [], false, .ld false 1 (.t 7)⟩,
  ⟨(some 9), none, [], false, .bin .shl .other (.t 8) (.c (.int .u64 13))⟩,
  ⟨(some 10), none, [], false, .bin .xor .other (.t 5) (.t 9)⟩,
  ⟨(some 11), none, [], false, .nck (.t 3)⟩,
  ⟨none, none, [], false, .st 1 (.t 11) (.t 10)⟩]
def f145r2 : List I := [⟨(some 12), none, [], false, .mv (.t 0)⟩,
  ⟨(some 13), none, [], false, .nck (.t 12)⟩,
  ⟨(some 14), none, [], false, .ld false 1 (.t 13)⟩,
  ⟨(some 15), none, [], false, .mv (.t 0)⟩,
  ⟨(some 16), none, [], false, .nck (.t 15)⟩,
  ⟨(some 17), none, [], false, .ld false 1 (.t 16)⟩,
  ⟨(some 18), none, [], false, .bin .shr .other (.t 17) (.c (.int .u64 7))⟩,
  ⟨(some 19), none, [], false, .bin .xor .other (.t 14) (.t 18)⟩,
  ⟨(some 20), none, [], false, .nck (.t 12)⟩,
  ⟨none, none, [], false, .st 1 (.t 20) (.t 19)⟩]
def f145r3 : List I := [⟨(some 21), none, [], false, .mv (.t 0)⟩,
  ⟨(some 22), none, [], false, .nck (.t 21)⟩,
  ⟨(some 23), none, [], false, .ld false 1 (.t 22)⟩,
  ⟨(some 24), none, [], false, .mv (.t 0)⟩,
  ⟨(some 25), none, [], false, .nck (.t 24)⟩,
  ⟨(some 26), none, [], false, .ld false 1 (.t 25)⟩,
  ⟨(some 27), none, [], false, .bin .shl .other (.t 26) (.c (.int .u64 17))⟩,
  ⟨(some 28), none, [], false, .bin .xor .other (.t 23) (.t 27)⟩,
  ⟨(some 29), none, [], false, .nck (.t 21)⟩,
  ⟨none, none, [], false, .st 1 (.t 29) (.t 28)⟩]
def f145r4 : List I := [⟨(some 30), none, [], false, .mv (.t 0)⟩,
  ⟨(some 31), none, [], false, .nck (.t 30)⟩,
  ⟨(some 32), none, [], false, .ld false 1 (.t 31)⟩,
  ⟨(some 2), none, [], false, .mv (.t 32)⟩]
def f145 : Fn := ⟨[0, 2], (.seq (.reg false f145r0) (.seq (.reg true f145r1) (.seq (.reg true f145r2) (.seq (.reg true f145r3) (.seq (.reg false f145r4) .ret))))), [.tmp 2]⟩
/-! 146: slices.medianAdjacentOrdered[stolon/api.Addr] -/
def f146r0 : List I := [⟨(some 6), none, [], false, .mv (.c (.int .i64 0))⟩]
def f146r1 : List I := [⟨(some 7), none, [], false, .mv (.t 0)⟩,
  ⟨(some 8), none, [], false, .mv (.t 1)⟩,
  ⟨(some 9), none, [], false, .bin .sub .other (.t 8) (.c (.int .i64 1))⟩,
  ⟨(some 10), none, [], false, .mv (.t 1)⟩,
  ⟨(some 11), none, [], false, .mv (.t 1)⟩,
  ⟨(some 12), none, [], false, .bin .add .other (.t 11) (.c (.int .i64 1))⟩,
  ⟨(some 13), none, [], false, .mv (.t 2)⟩,
  ⟨(some 14), none, [], false, .call 147 [(.t 7), (.t 9), (.t 10), (.t 12), (.t 13)]⟩,
  ⟨(some 6), none, [], false, .mv (.t 14)⟩]
def f146 : Fn := ⟨[0, 1, 2, 6], (.seq (.reg false f146r0) (.seq (.reg false f146r1) .ret)), [.tmp 6]⟩

end Go.Ev.S
